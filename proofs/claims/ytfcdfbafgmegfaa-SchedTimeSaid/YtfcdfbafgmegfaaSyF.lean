/-
  THE SYMBOLIC LAYER, PART F: operations that make or write memory: new variables, literals, stores, append.
-/
import Derived.Test.YtfcdfbafgmegfaaSyE
namespace Go.Hb
open Go.RowKit

/-- Cells of l from 'off' on replaced. -/
def splice (l : List V) (off : Nat) (xs : List V) : List V :=
  match Nat.beq off 0 && Nat.beq xs.length l.length with
  | true => xs
  | false => l.take off ++ xs ++ l.drop (off + xs.length)

theorem splice_eq (l : List V) (off : Nat) (xs : List V) : splice l off xs = l.take off ++ xs ++ l.drop (off + xs.length) := by
  unfold splice
  split
  · rename_i h
    simp only [Bool.and_eq_true, Nat.beq_eq] at h
    simp [h.1, h.2]
  · rfl

def allOne : List Value → Bool
  | [] => true
  | v :: l => v.oneCell' && allOne l

def consts : List Value → List V
  | [] => []
  | v :: l => ofConst v :: consts l

inductive Eff where
  | val (s : V)
  | new (B : Box) (s : V)
  | upd (k : Nat) (B : Box)
  | swap (k0 : Nat) (B : Box) (s : V)

def St.slot (S : St) (dst : Option Nat) (s : V) : St :=
  match dst with
  | none => S
  | some t => match s with
    | .junk => { S with fr := adel S.fr t }
    | s => { S with fr := aput S.fr t s }

def Eff.app (S : St) (key : Nat) (dst : Option Nat) : Eff → St
  | .val s => S.slot dst s
  | .new B s => { S with bx := aput S.bx key B }.slot dst s
  | .upd k B => { S with bx := aput S.bx k B }.slot dst .junk
  | .swap k0 B s => { S with bx := aput (adel S.bx k0) key B }.slot dst s

section
variable (P : Program)

/-- A value's cells. -/
def cellsOf (bx : List (Nat × Box)) : V → Option (List V)
  | .agg l => some l
  | .junk => none
  | .tup _ => none
  | .vec k => match aget bx k with
    | some (.vec _ _ _ _) => some [.vec k]
    | _ => none
  | s => some [s]

def zeroL (t : TypeId) : Option (List V) :=
  match P.info? t with
  | some i => match i.zero with
    | some z => match allOne z.cells.toList with
      | true => some (consts z.cells.toList)
      | false => none
    | none => none
  | none => none

def fillV (place : Nat → Option (Nat × Nat)) (cells : List V) : List (Nat × List V) → Option (List V)
  | [] => some cells
  | (i, vs) :: rest => match place i with
    | none => none
    | some (off, size) => match Nat.beq vs.length size && Nat.ble (off + vs.length) cells.length with
      | true => fillV place (splice cells off vs) rest
      | false => none

def evParts (S : St) : List (Nat × Operand) → Option (List (Nat × List V))
  | [] => some []
  | (i, x) :: l => match evo S.fr x with
    | some s => match cellsOf S.bx s with
      | some c => match evParts S l with
        | some r => some ((i, c) :: r)
        | none => none
      | none => none
    | none => none

def placesL : List Field → Option (List (Nat × Nat))
  | [] => some []
  | f :: l => match szT P f.type with
    | some sz => match placesL l with
      | some r => some ((f.offset, sz) :: r)
      | none => none
    | none => none

def evBuild (S : St) (t : TypeId) (parts : Array (Nat × Operand)) : Option V :=
  match zeroL P t, evParts S parts.toList with
  | some z, some ps => match P.underlying t with
    | some (.struct fs) => match placesL P fs.toList with
      | some pl => match fillV (fun i => pl[i]?) z ps with
        | some l => some (.agg l)
        | none => none
      | none => none
    | some (.array _ e) => match szT P e with
      | some sz => match fillV (fun i => some (i * sz, sz)) z ps with
        | some l => some (.agg l)
        | none => none
      | none => none
    | _ => none
  | _, _ => none

/-- So many times the same cells. -/
def rep : Nat → List V → List V
  | 0, _ => []
  | n + 1, l => l ++ rep n l

def evBuildSlice (S : St) (key : Nat) (t : TypeId) (len : Nat) (parts : Array (Nat × Operand)) : Option Eff :=
  match P.underlying t with
  | some (.slice e) => match szT P e, zeroL P e, evParts S parts.toList with
    | some sz, some z, some ps => match Nat.beq z.length sz && Nat.ble (len * sz) 65536 with
      | true => match fillV (fun i => some (i * sz, sz)) (rep len z) ps with
        | some l => some (.new (.cells e l) (.row key 0 len len))
        | none => none
      | false => none
    | _, _, _ => none
  | _ => none

def evStore (S : St) (t : TypeId) (x v : Operand) (ans : Ans) : Option (Eff × List Prop) :=
  match evo S.fr v with
  | some s => match cellsOf S.bx s with
    | some xs => match szT P t with
      | some sz => match Nat.beq xs.length sz with
        | true => match evo S.fr x with
          | some (.ptr k off) => match aget S.bx k with
            | some (.cells ty l) => match ans with
              | .val (.agg l') => some (.upd k (.cells ty l'), [off + xs.length ≤ l.length, l' = l.take off ++ xs ++ l.drop (off + xs.length)])
              | _ => match Nat.ble (off + xs.length) l.length with
                | true => some (.upd k (.cells ty (splice l off xs)), [])
                | false => none
            | _ => none
          | some (.vptr k sz' i off) => match aget S.bx k with
            | some (.vec ty sz'' n f) => match Nat.beq sz' sz'' && Nat.ble (off + xs.length) sz' && allD xs with
              | true => some (.upd k (.vec ty sz'' n fun j => if j = i then splice (f i) off xs else f j), [i < n])
              | false => none
            | _ => none
          | _ => none
        | false => none
      | none => none
    | none => none
  | none => none

/-- What an append takes from: elements of sz cells each. -/
def srcOf (S : St) (sz : Nat) : V → Option (Nat × (Nat → List V))
  | .nilsl => some (0, fun _ => [])
  | .esl => some (0, fun _ => [])
  | .seq sz' m g => match Nat.beq sz sz' with
    | true => some (m, g)
    | false => none
  | .row k off m _ => match aget S.bx k with
    | some (.cells _ l) => match Nat.ble (off + m * sz) l.length && allD l with
      | true => some (m, fun i => (l.drop (off + i * sz)).take sz)
      | false => none
    | _ => none
  | .vec k => match aget S.bx k with
    | some (.vec _ sz' m g) => match Nat.beq sz sz' with
      | true => some (m, g)
      | false => none
    | _ => none
  | _ => none

def joinF (n : Nat) (f g : Nat → List V) (i : Nat) : List V := if i < n then f i else g (i - n)

def evAppend (S : St) (key : Nat) (t : TypeId) (s x : V) : Option (Eff × List Prop) :=
  match P.underlying t with
  | some (.slice e) => match P.info? e, szT P e, zeroL P e with
    | some i, some sz, some z => match Nat.beq z.length sz && Nat.ble 1 sz, srcOf S sz x with
      | true, some (m, g) => match s with
        | .nilsl => some (.new (.vec e sz m g) (.vec key), [m * i.bytes ≤ 140737488355328 ∧ m ≤ maxLen])
        | .row k 0 n c => match aget S.bx k with
          | some (.cells ty l) => match Nat.beq ty e && Nat.beq (c * sz) l.length && Nat.ble n c && allD l with
            | true => some (.swap k (.vec e sz (n + m) (joinF n (fun i => (l.drop (i * sz)).take sz) g)) (.vec key), [(n + m) * i.bytes ≤ 140737488355328 ∧ n + m ≤ maxLen, c ≤ maxLen])
            | false => none
          | _ => none
        | .vec k => match aget S.bx k with
          | some (.vec ty sz' n f) => match Nat.beq ty e && Nat.beq sz sz' with
            | true => some (.swap k (.vec e sz (n + m) (joinF n f g)) (.vec key), [(n + m) * i.bytes ≤ 140737488355328 ∧ n + m ≤ maxLen])
            | false => none
          | _ => none
        | _ => none
      | _, _ => none
    | _, _, _ => none
  | _ => none
end

section
variable {P : Program} {E : Env} {σ σ' : Nat → Option Value} {S V0 : St} {a : Act} {w w' : World} {bad : Nat → Prop}

theorem Rel.slot {dst : Option Nat} {s : V} {v : Value} (h : Rel E σ S a w) (ht : ∀ t, dst = some t → t < S.nt) (hc : CV σ w (badOf E σ S.bx) s v) : Rel E σ (S.slot dst s) (a.put dst v) w := by
  unfold St.slot
  split
  · exact h
  · rename_i t
    split
    · exact h.drop v
    · exact h.put (ht t rfl) hc

theorem cellsOf_ok {s : V} {l : List V} (hs : Sub V0 S) (h : Rel E σ S a w) (hc : cellsOf V0.bx s = some l) {v : Value} (hv : CV σ w (badOf E σ S.bx) s v) :
    v.cells.size = l.length ∧ ∀ (j : Nat) (r : V), l[j]? = some r → ∃ u, v.cells[j]? = some u ∧ CV σ w (badOf E σ S.bx) r u ∧ u.oneCell' = true := by
  unfold cellsOf at hc
  split at hc
  · injection hc with hc; subst hc
    cases hv with
    | data hd => cases hd
    | agg vs u hs hvs h1 hd =>
      refine ⟨hs, fun j r hj => ?_⟩
      have hlt := (List.getElem?_eq_some_iff.1 hj).1
      exact ⟨u j, hvs j hlt, hd j r hj, h1 j hlt⟩
  · cases hc
  · cases hc
  · rename_i k
    split at hc
    · rename_i ty sz n f hk
      injection hc with hc; subst hc
      cases hv with
      | data hd => cases hd
      | vec v hb =>
        cases h.box k _ (hs.bx _ _ hk) with
        | vec v' xs hk' hown hl hcc =>
          rw [hk'] at hb
          injection hb with hb; subst hb
          have hone : v'.oneCell' = true ∧ v'.cells = #[v'] := by
            rcases hown.2 with ⟨rfl, _⟩ | ⟨g, cap, cur, rfl, _⟩ <;> exact ⟨rfl, rfl⟩
          rw [hone.2]
          refine ⟨rfl, fun j r hj => ?_⟩
          cases j with
          | zero => simp at hj; subst hj; exact ⟨v', rfl, .vec v' hk', hone.1⟩
          | succ j => simp at hj
    · cases hc
  · rename_i hn1 hn2 hn3 hn4
    injection hc with hc; subst hc
    have hone : v.oneCell' = true := hv.oneCell (by cases s <;> first | rfl | exact absurd rfl (hn1 _) | exact absurd rfl hn2 | exact absurd rfl (hn3 _) | exact absurd rfl (hn4 _))
    have hcs : v.cells = #[v] := by cases v <;> first | rfl | simp [Value.oneCell'] at hone
    rw [hcs]
    refine ⟨rfl, fun j r hj => ?_⟩
    cases j with
    | zero => simp at hj; subst hj; exact ⟨v, rfl, hv, hone⟩
    | succ j => simp at hj

theorem consts_ok (w : World) (bad : Nat → Prop) : ∀ (l : List Value), allOne l = true → (consts l).length = l.length ∧ ∀ (j : Nat) (r : V), (consts l)[j]? = some r → ∃ u, l[j]? = some u ∧ CV σ w bad r u ∧ u.oneCell' = true
  | [], _ => by simp [consts]
  | v :: l, h => by
    simp only [allOne, Bool.and_eq_true] at h
    obtain ⟨h1, h2⟩ := consts_ok w bad l h.2
    refine ⟨by simp [consts, h1], fun j r hj => ?_⟩
    cases j with
    | zero =>
      simp only [consts, List.getElem?_cons_zero, Option.some.injEq] at hj
      subst hj
      refine ⟨v, rfl, ?_, h.1⟩
      by_cases hjk : ofConst v = .junk
      · rw [hjk]; exact .junk
      · exact .data (ofConst_ok w bad v hjk)
    | succ j => simpa using h2 j r (by simpa [consts] using hj)

theorem zeroL_ok {t : TypeId} {l : List V} (h : zeroL P t = some l) (w : World) (bad : Nat → Prop) :
    ∃ i z, P.info? t = some i ∧ i.zero = some z ∧ z.cells.size = l.length ∧ ∀ (j : Nat) (r : V), l[j]? = some r → ∃ u, z.cells[j]? = some u ∧ CV σ w bad r u ∧ u.oneCell' = true := by
  unfold zeroL at h
  split at h
  · rename_i i hi
    split at h
    · rename_i z hz
      split at h
      · rename_i h1
        injection h with h; subst h
        obtain ⟨h2, h3⟩ := consts_ok (σ := σ) w bad _ h1
        refine ⟨i, z, hi, hz, by simpa using h2.symm, fun j r hj => ?_⟩
        obtain ⟨u, hu, h4⟩ := h3 j r hj
        exact ⟨u, by simpa using hu, h4⟩
      · cases h
    · cases h
  · cases h

theorem run_zeroValue {t : TypeId} {i : TypeInfo} {z : Value} (hi : P.info? t = some i) (hz : i.zero = some z) (w : World) : (zeroValue t).run P w = .ok z w := by
  simp [zeroValue, typeInfo, hi, hz]

/-- Cells that are known in part. -/
def Row (σ : Nat → Option Value) (w : World) (bad : Nat → Prop) (l : List V) (cs : Array Value) : Prop :=
  cs.size = l.length ∧ ∀ (j : Nat) (r : V), l[j]? = some r → ∃ u, cs[j]? = some u ∧ CV σ w bad r u ∧ u.oneCell' = true

theorem Row.mono (hσ : ∀ k v, σ k = some v → σ' k = some v) {bad' : Nat → Prop} (hb : ∀ b, b < w.heap.size → ¬ bad b → ¬ bad' b ∧ w'.heap[b]? = w.heap[b]?) {l : List V} {cs : Array Value} (h : Row σ w bad l cs) : Row σ' w' bad' l cs :=
  ⟨h.1, fun j r hj => by obtain ⟨u, h1, h2, h3⟩ := h.2 j r hj; exact ⟨u, h1, h2.mono hσ hb, h3⟩⟩

theorem Row.agg {l : List V} {cs : Array Value} (h : Row σ w bad l cs) : CV σ w bad (.agg l) (.agg cs) := by
  refine .agg cs (fun j => cs.getD j undef) h.1 (fun j hj => ?_) (fun j hj => ?_) fun j r hj => ?_
  · obtain ⟨u, hu, _⟩ := h.2 j _ (List.getElem?_eq_getElem hj); simp [hu]
  · obtain ⟨u, hu, _, h1⟩ := h.2 j _ (List.getElem?_eq_getElem hj); simpa [hu] using h1
  · obtain ⟨u, hu, h1, _⟩ := h.2 j r hj; simpa [hu] using h1

theorem Row.splice {l xs : List V} {cs ys : Array Value} (h : Row σ w bad l cs) (hx : Row σ w bad xs ys) (off : Nat) (hle : off + xs.length ≤ l.length) :
    Row σ w bad (l.take off ++ xs ++ l.drop (off + xs.length)) (cs.toList.take off ++ ys.toList ++ cs.toList.drop (off + ys.size)).toArray := by
  have hcl : cs.toList.length = l.length := by simpa using h.1
  have hyl : ys.toList.length = xs.length := by simpa using hx.1
  refine ⟨by simp [hx.1, h.1], fun j r hj => ?_⟩
  simp only [List.getElem?_toArray]
  rw [List.append_assoc] at hj ⊢
  rw [List.getElem?_append] at hj ⊢
  simp only [List.length_take, hcl] at *
  by_cases h1 : j < min off l.length
  · rw [if_pos h1] at hj ⊢
    rw [List.getElem?_take, if_pos (by omega)] at hj ⊢
    simpa using h.2 j r hj
  · rw [if_neg h1] at hj ⊢
    rw [List.getElem?_append] at hj ⊢
    rw [hyl]
    by_cases h2 : j - min off l.length < xs.length
    · rw [if_pos h2] at hj ⊢
      simpa using hx.2 _ r hj
    · rw [if_neg h2] at hj ⊢
      rw [List.getElem?_drop] at hj ⊢
      rw [hx.1]
      simpa using h.2 _ r hj

theorem foldl_set (xs : List Value) : ∀ (k off : Nat) (cs : Array Value), off + k + xs.length ≤ cs.size →
    ((xs.zipIdx k).foldl (fun cs (p : Value × Nat) => cs.setIfInBounds (off + p.2) p.1) cs) = (cs.toList.take (off + k) ++ xs ++ cs.toList.drop (off + k + xs.length)).toArray := by
  induction xs with
  | nil => intro k off cs _; simp
  | cons x xs ih =>
    intro k off cs hle
    simp only [List.length_cons] at hle
    simp only [List.zipIdx_cons, List.foldl_cons]
    rw [ih (k + 1) off _ (by simp; omega)]
    apply Array.ext'
    simp only [Array.toList_setIfInBounds, List.length_cons]
    rw [List.take_set, List.drop_set_of_lt (by omega)]
    have h1 : (cs.toList.take (off + (k + 1))) = cs.toList.take (off + k) ++ [cs.toList[off + k]'(by simp; omega)] := by
      rw [← Nat.add_assoc]; exact List.take_succ_eq_append_getElem (by simp; omega)
    have h3 : cs.toList.length = cs.size := by simp
    rw [h1, List.set_append_right _ _ (by rw [List.length_take]; omega), List.length_take, show off + k - min (off + k) cs.toList.length = 0 from by rw [h3, Nat.min_eq_left (by omega), Nat.sub_self]]
    simp only [List.set_cons_zero, List.append_assoc, List.cons_append, List.nil_append]
    rw [show off + (k + 1) + xs.length = off + k + (xs.length + 1) from by omega]

theorem fillV_ok {place : Nat → Option (Nat × Nat)} : ∀ {ps : List (Nat × List V)} {l r : List V} {cs : Array Value} {qs : List (Nat × Value)}, fillV place l ps = some r → Row σ w bad l cs →
    qs.length = ps.length → (∀ (j : Nat) i c, ps[j]? = some (i, c) → ∃ v, qs[j]? = some (i, v) ∧ Row σ w bad c v.cells) → ∃ ds, Instr.fill place cs qs = some ds ∧ Row σ w bad r ds
  | [], l, r, cs, qs, h, hr, hl, _ => by
    simp [fillV] at h; subst h
    match qs, hl with
    | [], _ => exact ⟨cs, rfl, hr⟩
  | (i, c) :: ps, l, r, cs, qs, h, hr, hl, hq => by
    match qs, hl with
    | q :: qs, hl =>
      obtain ⟨v, hv, hrow⟩ := hq 0 i c rfl
      simp at hv; subst hv
      unfold fillV at h
      split at h
      · cases h
      · rename_i off size hp
        split at h
        · rename_i hz
          simp only [Bool.and_eq_true, Nat.beq_eq] at hz
          have hle := Nat.le_of_ble_eq_true hz.2
          have h2 := hr.splice hrow off hle
          rw [← splice_eq] at h2
          obtain ⟨ds, h3, h4⟩ := fillV_ok (qs := qs) h h2 (by simpa using hl) (fun j i c hj => by simpa using hq (j + 1) i c (by simpa using hj))
          refine ⟨ds, ?_, h4⟩
          unfold Instr.fill
          rw [hp]
          simp only []
          rw [if_neg (by rw [hrow.1, hr.1]; simp; omega)]
          rw [← Array.foldl_toList, Array.toList_zipIdx, foldl_set v.cells.toList 0 off cs (by simp [hrow.1, hr.1]; omega)]
          simpa using h3
        · cases h

theorem evParts_ok (hs : Sub V0 S) (h : Rel E σ S a w) : ∀ {l : List (Nat × Operand)} {ps : List (Nat × List V)}, evParts V0 l = some ps →
    l.length = ps.length ∧ ∀ (j : Nat) i c, ps[j]? = some (i, c) → ∃ v, (l.map fun (p : Nat × Operand) => (p.1, a.eval p.2))[j]? = some (i, v) ∧ Row σ w (badOf E σ S.bx) c v.cells
  | [], ps, hp => by simp [evParts] at hp; subst hp; simp
  | (i, x) :: l, ps, hp => by
    unfold evParts at hp
    split at hp
    · rename_i s hx
      split at hp
      · rename_i c hc
        split at hp
        · rename_i r hr
          injection hp with hp; subst hp
          obtain ⟨h1, h2⟩ := evParts_ok hs h hr
          refine ⟨by simp [h1], fun j i' c' hj => ?_⟩
          cases j with
          | zero =>
            simp at hj
            obtain ⟨rfl, rfl⟩ := hj
            exact ⟨a.eval x, by simp, cellsOf_ok hs h hc (evo_ok hs h hx)⟩
          | succ j => simpa using h2 j i' c' (by simpa using hj)
        · cases hp
      · cases hp
    · cases hp
end
end Go.Hb
