/-
  THE SYMBOLIC LAYER, PART Q: saying less of a state ('Ent'), the end of a function.
-/
import Derived.Test.YtfcdfbafgmegfaaSyP
namespace Go.Hb
open Go.RowKit

/-- Whatever s says, r says no more. -/
def Le (s r : V) : Prop := ∀ (σ : Nat → Option Value) (w : World) (bad : Nat → Prop) (v : Value), CV σ w bad s v → CV σ w bad r v

theorem Le.refl (s : V) : Le s s := fun _ _ _ _ h => h
theorem Le.of_eq {s r : V} (h : s = r) : Le s r := h ▸ Le.refl s
theorem Le.trans {s r q : V} (h : Le s r) (k : Le r q) : Le s q := fun σ w bad v hv => k σ w bad v (h σ w bad v hv)
theorem Le.junk (s : V) : Le s .junk := fun _ _ _ _ _ => .junk
theorem Le.tt (b : Bool) : Le (.tt b) (.bool b) := fun _ _ _ v hv => by
  cases hv with
  | data hd => cases hd; exact .data .bool
theorem Le.nil (sz : Nat) (f : Nat → List V) : Le .nilsl (.seq sz 0 f) := fun _ _ _ v hv => by
  cases hv with
  | data hd => cases hd; exact .data (.seq none 0 0 0 (fun _ _ => undef) (by simp) (Nat.le_refl _) (by simp) (by simp) (by simp) (fun _ => rfl))
theorem Le.esl (sz : Nat) (f : Nat → List V) : Le .esl (.seq sz 0 f) := fun _ _ _ v hv => by
  cases hv with
  | data hd => cases hd; exact .data (.seq _ 0 0 _ (fun _ _ => undef) (by simp) (Nat.zero_le _) (by simp) (by simp) (by simp) (fun h => by cases h))
theorem CD.seq_congr {w : World} {bad : Nat → Prop} {sz n : Nat} {f g : Nat → List V} (h : ∀ i, i < n → f i = g i) {v : Value} (hv : CD w bad (.seq sz n f) v) : CD w bad (.seq sz n g) v := by
  cases hv with
  | seq o b off c u ho hnc hl hc hd hz =>
    exact .seq o b off c u ho hnc (fun i hi => by rw [← h i hi]; exact hl i hi) hc (fun i j s hi hs => hd i j s hi (by rw [h i hi]; exact hs)) hz
theorem Le.seq {sz n n' : Nat} {f g : Nat → List V} (hn : n = n') (h : ∀ i, i < n → f i = g i) : Le (.seq sz n f) (.seq sz n' g) := fun _ _ _ v hv => by
  subst hn
  cases hv with
  | data hd => exact .data (hd.seq_congr h)

/-- Cells, one by one. -/
inductive LeL : List V → List V → Prop
  | nil : LeL [] []
  | cons {s r : V} {l m : List V} (h : Le s r) (t : LeL l m) : LeL (s :: l) (r :: m)

theorem LeL.refl : ∀ l : List V, LeL l l
  | [] => .nil
  | _ :: l => .cons (Le.refl _) (LeL.refl l)

theorem LeL.get {l m : List V} (h : LeL l m) : l.length = m.length ∧ ∀ (j : Nat) (r : V), m[j]? = some r → ∃ s, l[j]? = some s ∧ Le s r := by
  induction h with
  | nil => simp
  | cons h t ih =>
    refine ⟨by simp [ih.1], fun j r hj => ?_⟩
    cases j with
    | zero => simp at hj; subst hj; exact ⟨_, rfl, h⟩
    | succ j => simpa using ih.2 j r (by simpa using hj)

theorem Le.agg {l m : List V} (h : LeL l m) : Le (.agg l) (.agg m) := fun σ w bad v hv => by
  obtain ⟨h1, h2⟩ := h.get
  cases hv with
  | data hd => cases hd
  | agg vs u hs hvs h3 hd =>
    refine .agg vs u (by omega) (fun j hj => hvs j (by omega)) (fun j hj => h3 j (by omega)) fun j r hj => ?_
    obtain ⟨s, hs', hle⟩ := h2 j r hj
    exact hle _ _ _ _ (hd j s hs')
theorem Le.tup {l m : List V} (h : LeL l m) : Le (.tup l) (.tup m) := fun σ w bad v hv => by
  obtain ⟨h1, h2⟩ := h.get
  cases hv with
  | data hd => cases hd
  | tup vs u hs hvs hd =>
    refine .tup vs u (by omega) (fun j hj => hvs j (by omega)) fun j r hj => ?_
    obtain ⟨s, hs', hle⟩ := h2 j r hj
    exact hle _ _ _ _ (hd j s hs')

/-- The same of boxes. -/
def LeB (B C : Box) : Prop := ∀ (σ : Nat → Option Value) (w : World) (bad : Nat → Prop) (k : Nat), BRel σ w bad k B → BRel σ w bad k C
theorem LeB.refl (B : Box) : LeB B B := fun _ _ _ _ h => h
theorem LeB.of_eq {B C : Box} (h : B = C) : LeB B C := h ▸ LeB.refl B
theorem LeB.cells {ty : Nat} {l m : List V} (h : LeL l m) : LeB (.cells ty l) (.cells ty m) := fun σ w bad k hB => by
  obtain ⟨h1, h2⟩ := h.get
  cases hB with
  | cells b cs hk hh hs hc =>
    refine .cells b cs hk hh (by omega) fun j r hj => ?_
    obtain ⟨s, hs', hle⟩ := h2 j r hj
    obtain ⟨v, h3, h4, h5⟩ := hc j s hs'
    exact ⟨v, h3, hle _ _ _ _ h4, h5⟩
theorem LeB.vec {ty sz n n' : Nat} {f g : Nat → List V} (hn : n = n') (h : ∀ i, i < n → f i = g i) : LeB (.vec ty sz n f) (.vec ty sz n' g) := fun σ w bad k hB => by
  subst hn
  cases hB with
  | vec v xs hk ho hl hc => exact .vec v xs hk ho (fun i hi => by rw [← h i hi]; exact hl i hi) (fun i j s hi hs => hc i j s hi (by rw [h i hi]; exact hs))
theorem LeB.mapB {n n' : Nat} {f g : Int → Option Bool} (hn : n = n') (h : ∀ i, f i = g i) : LeB (.mapB n f) (.mapB n' g) := by
  obtain rfl : f = g := funext h
  subst hn; exact LeB.refl _
theorem LeB.mapI {n n' : Nat} {f g : Int → Option Int} (hn : n = n') (h : ∀ i, f i = g i) : LeB (.mapI n f) (.mapI n' g) := by
  obtain rfl : f = g := funext h
  subst hn; exact LeB.refl _

def Box.ltB (n : Nat) : Box → Bool
  | .cells _ l => V.ltL n l
  | _ => true

/-- What is owed where a state says less: slot by slot, box by box. -/
def entFr (S : List (Nat × V)) : List (Nat × V) → Option (List Prop)
  | [] => some []
  | (t, r) :: l => match aget S t, entFr S l with
    | some s, some obs => some (Le s r :: obs)
    | _, _ => none
def entBx (S : List (Nat × Box)) : List (Nat × Box) → Option (List Prop)
  | [] => some []
  | (k, r) :: l => match aget S k, entBx S l with
    | some s, some obs => some (LeB s r :: obs)
    | _, _ => none
def ltFr (n : Nat) : List (Nat × V) → Bool
  | [] => true
  | (_, r) :: l => V.ltB n r && ltFr n l
def ltBx (n : Nat) : List (Nat × Box) → Bool
  | [] => true
  | (k, B) :: l => Nat.blt k n && Box.ltB n B && ltBx n l
def ent (S S' : St) : Option (List Prop) :=
  match Nat.beq S.nt S'.nt && Nat.ble S'.nx S.nx && ltFr S'.nx S'.fr && ltBx S'.nx S'.bx, entFr S.fr S'.fr, entBx S.bx S'.bx with
  | true, some o1, some o2 => some (o1 ++ o2)
  | _, _, _ => none

section
variable {P : Program} {f : FuncId} {m : Nat} {res : V} {bx1 : List (Nat × Box)} {E : Env} {σ σ' : Nat → Option Value} {S S' : St} {a : Act} {w : World}

theorem entFr_get {F : List (Nat × V)} : ∀ {l : List (Nat × V)} {obs : List Prop}, entFr F l = some obs → AllP obs → ∀ t r, aget l t = some r → ∃ s, aget F t = some s ∧ Le s r
  | [], _, _, _, t, r, h => by simp [aget] at h
  | (u, x) :: l, obs, he, ho, t, r, h => by
    unfold entFr at he
    split at he
    · rename_i s obs' hs hobs
      injection he with he; subst he
      simp only [aget] at h
      split at h
      · rename_i hb
        rw [Nat.beq_eq] at hb; subst hb
        injection h with h; subst h
        exact ⟨s, hs, ho.1⟩
      · exact entFr_get hobs ho.2 t r h
    · cases he
theorem entBx_get {F : List (Nat × Box)} : ∀ {l : List (Nat × Box)} {obs : List Prop}, entBx F l = some obs → AllP obs → ∀ t r, aget l t = some r → ∃ s, aget F t = some s ∧ LeB s r
  | [], _, _, _, t, r, h => by simp [aget] at h
  | (u, x) :: l, obs, he, ho, t, r, h => by
    unfold entBx at he
    split at he
    · rename_i s obs' hs hobs
      injection he with he; subst he
      simp only [aget] at h
      split at h
      · rename_i hb
        rw [Nat.beq_eq] at hb; subst hb
        injection h with h; subst h
        exact ⟨s, hs, ho.1⟩
      · exact entBx_get hobs ho.2 t r h
    · cases he
theorem ltFr_get {n : Nat} : ∀ {l : List (Nat × V)}, ltFr n l = true → ∀ t r, aget l t = some r → V.ltB n r = true
  | [], _, t, r, h => by simp [aget] at h
  | (u, x) :: l, hl, t, r, h => by
    simp only [ltFr, Bool.and_eq_true] at hl
    simp only [aget] at h
    split at h
    · injection h with h; subst h; exact hl.1
    · exact ltFr_get hl.2 t r h
theorem ltBx_get {n : Nat} : ∀ {l : List (Nat × Box)}, ltBx n l = true → ∀ k B, aget l k = some B → k < n ∧ Box.ltB n B = true
  | [], _, t, r, h => by simp [aget] at h
  | (u, x) :: l, hl, t, r, h => by
    simp only [ltBx, Bool.and_eq_true, Nat.blt_eq] at hl
    simp only [aget] at h
    split at h
    · rename_i hb
      rw [Nat.beq_eq] at hb; subst hb
      injection h with h; subst h; exact hl.1
    · exact ltBx_get hl.2 t r h

/-- Keys from n on forgotten. -/
theorem BRel.restrict {bad bad' : Nat → Prop} {n k : Nat} {B : Box} (hσ : ∀ k, k < n → σ' k = σ k) (hb : ∀ b, ¬ bad b → ¬ bad' b) (h : BRel σ w bad k B) (hk : k < n) (hB : Box.ltB n B = true) : BRel σ' w bad' k B := by
  have hm : ∀ b, b < w.heap.size → ¬ bad b → ¬ bad' b ∧ w.heap[b]? = w.heap[b]? := fun b _ h => ⟨hb b h, rfl⟩
  cases h with
  | cells b cs h1 hh hs hc =>
    refine .cells b cs (by rw [hσ k hk]; exact h1) hh hs fun j s hj => ?_
    obtain ⟨v, h2, h3, h4⟩ := hc j s hj
    exact ⟨v, h2, (h3.restrict (σ' := σ') (fun k v hk hv => by rw [hσ k hk]; exact hv) (ltL_get hB j s hj)).mono (fun _ _ h => h) hm, h4⟩
  | vec v xs h1 ho hl hc =>
    exact .vec v xs (by rw [hσ k hk]; exact h1) ho hl fun i j s hi hj => by obtain ⟨x, h2, h3⟩ := hc i j s hi hj; exact ⟨x, h2, h3.mono hm⟩
  | mapB r h1 h => exact .mapB r (by rw [hσ k hk]; exact h1) h
  | mapI r h1 h => exact .mapI r (by rw [hσ k hk]; exact h1) h
  | mapF r h1 h => exact .mapF r (by rw [hσ k hk]; exact h1) h

/-- A state may be taken for one that says less. -/
theorem GoTo.ent {todo : List Item} {obs : List Prop} (he : ent S S' = some obs) (ho : AllP obs) (hm : m ≤ S'.nx) (h : GoTo P f m res bx1 todo S') : GoTo P f m res bx1 todo S := by
  unfold Hb.ent at he
  split at he
  · rename_i o1 o2 hc h1 h2
    injection he with he; subst he
    simp only [Bool.and_eq_true, Nat.beq_eq] at hc
    obtain ⟨⟨⟨hnt, hle⟩, hlf⟩, hlb⟩ := hc
    have hle := Nat.le_of_ble_eq_true hle
    obtain ⟨ho1, ho2⟩ := allP_append.1 ho
    intro E σ a w b cs hb hk hr hf hnx
    let σ1 : Nat → Option Value := fun k => if k < S'.nx then σ k else none
    have hσ1 : ∀ k, k < S'.nx → σ1 k = σ k := fun k hk => by show (if k < S'.nx then σ k else none) = σ k; rw [if_pos hk]
    have hbad : ∀ b, ¬ badOf E σ S.bx b → ¬ badOf E σ1 S'.bx b := by
      intro b hn
      rintro (h0 | ⟨k, B, hg, hkb⟩)
      · exact hn (.inl h0)
      · obtain ⟨C, hC, _⟩ := entBx_get h2 ho2 k B hg
        rw [hσ1 k (ltBx_get hlb k B hg).1] at hkb
        exact hn (.inr ⟨k, C, hC, hkb⟩)
    have hrel : Rel E σ1 S' a w := by
      refine ⟨⟨fun k B hg => ?_, fun k B b hg hkb => ?_, fun k k' B B' b hg hg' hkb hkb' => ?_, hr.os, hr.tape, hr.output, hr.size, hr.old, hr.hbad⟩, hr.dfs, by rw [hr.nt, hnt], fun t r ht => ?_⟩
      · obtain ⟨C, hC, hle'⟩ := entBx_get h2 ho2 k B hg
        have hlt := ltBx_get hlb k B hg
        exact BRel.restrict hσ1 hbad (hle' _ _ _ _ (hr.box k C hC)) hlt.1 hlt.2
      · obtain ⟨C, hC, _⟩ := entBx_get h2 ho2 k B hg
        rw [hσ1 k (ltBx_get hlb k B hg).1] at hkb
        exact hr.own k C b hC hkb
      · obtain ⟨C, hC, _⟩ := entBx_get h2 ho2 k B hg
        obtain ⟨C', hC', _⟩ := entBx_get h2 ho2 k' B' hg'
        rw [hσ1 k (ltBx_get hlb k B hg).1] at hkb
        rw [hσ1 k' (ltBx_get hlb k' B' hg').1] at hkb'
        exact hr.dist k k' C C' b hC hC' hkb hkb'
      · obtain ⟨s, hs, hle'⟩ := entFr_get h1 ho1 t r ht
        obtain ⟨v, hv, hc⟩ := hr.fr t s hs
        refine ⟨v, hv, ?_⟩
        exact ((hle' _ _ _ _ hc).restrict (σ' := σ1) (fun k v hk hv => by rw [hσ1 k hk]; exact hv) (ltFr_get hlf t r ht)).mono (fun _ _ h => h) fun b _ hn => ⟨hbad b hn, rfl⟩
    obtain ⟨e, w', fr, g1, g2, g3, v, σ', g4, g5, g6⟩ := h E σ1 a w b cs hb hk hrel (fun k hk => by show (if k < S'.nx then σ k else none) = none; rw [if_neg (by omega)]) hm
    exact ⟨e, w', fr, g1, g2, g3, v, σ', g4, fun k hk => by rw [g5 k hk]; exact hσ1 k (by omega), g6⟩
  · cases he

theorem packRes_run {fn : Func} {rs : List V} (h : evRes P S fn.results.toList = some rs) (hr : Rel E σ S a w) : ∃ v, (results fn a.tmps).run P w = .ok v w ∧ CV σ w (badOf E σ S.bx) (packRes rs) v := by
  have key : ∀ (l : List ResultVar) (rs : List V), evRes P S l = some rs → ∃ vs : List Value, (l.mapM (fun
      | .tmp t => pure (a.tmps.getD t undef)
      | .cell p t => do loadVar t (← asAddr (a.tmps.getD p undef)) : ResultVar → Sem Value)).run P w = .ok vs w ∧ vs.length = rs.length ∧ ∀ (j : Nat) (s : V), rs[j]? = some s → ∃ v, vs[j]? = some v ∧ CV σ w (badOf E σ S.bx) s v := by
    intro l
    induction l with
    | nil => intro rs h; simp [evRes] at h; subst h; exact ⟨[], rfl, rfl, by simp⟩
    | cons x l ih =>
      intro rs h
      cases x with
      | tmp t =>
        simp only [evRes] at h
        split at h
        · rename_i s r hs hrr
          injection h with h; subst h
          obtain ⟨vs, h1, h2, h3⟩ := ih r hrr
          obtain ⟨v, hv, hc⟩ := hr.fr t s hs
          refine ⟨v :: vs, ?_, by simp [h2], fun j s' hj => ?_⟩
          · have hg : a.tmps.getD t undef = v := by simp [hv]
            simp only [List.mapM_cons, Sem.run_bind, Sem.run_pure, Result.andThen_ok, hg, h1]
          · cases j with
            | zero => simp at hj; subst hj; exact ⟨v, rfl, hc⟩
            | succ j => simpa using h3 j s' (by simpa using hj)
        · cases h
      | cell p t =>
        simp only [evRes] at h
        split at h
        · rename_i s r hs hrr
          injection h with h; subst h
          obtain ⟨vs, h1, h2, h3⟩ := ih r hrr
          obtain ⟨v, hv, hc⟩ := evLoad_ok hs trivial (Sub.refl S) hr
          refine ⟨v :: vs, ?_, by simp [h2], fun j s' hj => ?_⟩
          · have hload : (do loadVar t (← asAddr (a.tmps.getD p undef)) : Sem Value).run P w = .ok v w := by
              have hv' := hv
              simp only [Instr.loadAt, Act.eval] at hv'
              generalize a.tmps.getD p undef = y at hv'
              cases y with
              | pointer q => cases q with
                | none => simp [Instr.sureAddr, stuck, Sem.run] at hv'
                | some ad => simpa [Instr.sureAddr, asAddr] using hv'
              | _ => simp [Instr.sureAddr, stuck, Sem.run] at hv'
            simp only [List.mapM_cons, Sem.run_bind] at hload ⊢
            rw [hload]
            simp only [Result.andThen_ok, h1, Sem.run_pure]
          · cases j with
            | zero => simp at hj; subst hj; exact ⟨v, rfl, hc⟩
            | succ j => simpa using h3 j s' (by simpa using hj)
        · cases h
  obtain ⟨vs, h1, h2, h3⟩ := key _ rs h
  have hmap : (fn.results.mapM (fun
      | .tmp t => pure (a.tmps.getD t undef)
      | .cell p t => do loadVar t (← asAddr (a.tmps.getD p undef)) : ResultVar → Sem Value)).run P w = .ok vs.toArray w := by
    rw [← Array.toArray_toList (xs := fn.results), List.mapM_toArray, map_eq_pure_bind, Sem.run_bind, h1]
    rfl
  refine ⟨if h : vs.toArray.size = 1 then vs.toArray[0] else .tuple vs.toArray, ?_, ?_⟩
  · unfold results
    rw [Sem.run_bind]
    exact congrArg (fun r => Result.andThen r _) hmap
  · match rs, vs, h2, h3 with
    | [s], [v], _, h3 => simpa [packRes] using h3 0 s rfl
    | [], [], _, h3 => simp [packRes]; exact .tup #[] (fun _ => undef) rfl (by simp) (by simp)
    | s1 :: s2 :: rs, v1 :: v2 :: vs, h2, h3 =>
      have hne : ¬ ((v1 :: v2 :: vs).toArray.size = 1) := by simp
      rw [dif_neg hne]
      simp only [packRes]
      refine .tup _ (fun j => (v1 :: v2 :: vs).getD j undef) (by simpa using h2) (fun j hj => ?_) fun j s hj => ?_
      · obtain ⟨v, hv, _⟩ := h3 j _ (List.getElem?_eq_getElem hj)
        simp only [List.getElem?_toArray, hv, List.getD, Option.getD_some]
      · obtain ⟨v, hv, hc⟩ := h3 j s hj
        simpa [List.getD, hv] using hc

/-- The end, where boxes are handed back as they are. -/
theorem fin_of {fn : Func} {rs : List V} {obs : List Prop} (hf : P.funcs[f]? = some fn) (h : evRes P S fn.results.toList = some rs) (hle : Le (packRes rs) res) (hb : entBx S.bx bx1 = some obs) (ho : AllP obs) : Fin P f m res bx1 S := by
  refine ⟨fn, hf, fun E σ a w hr hff hnx => ?_⟩
  obtain ⟨v, h1, h2⟩ := packRes_run h hr
  have hbad : ∀ b, ¬ badOf E σ S.bx b → ¬ badOf E σ bx1 b := by
    intro b hn
    rintro (h0 | ⟨k, B, hg, hkb⟩)
    · exact hn (.inl h0)
    · obtain ⟨C, hC, _⟩ := entBx_get hb ho k B hg
      exact hn (.inr ⟨k, C, hC, hkb⟩)
  have hmono : ∀ b, b < w.heap.size → ¬ badOf E σ S.bx b → ¬ badOf E σ bx1 b ∧ w.heap[b]? = w.heap[b]? := fun b _ hn => ⟨hbad b hn, rfl⟩
  refine ⟨v, σ, h1, fun _ _ => rfl, (hle _ _ _ _ h2).mono (fun _ _ h => h) hmono, ⟨fun k B hg => ?_, fun k B b hg hkb => ?_, fun k k' B B' b hg hg' hkb hkb' => ?_, hr.os, hr.tape, hr.output, hr.size, hr.old, hr.hbad⟩⟩
  · obtain ⟨C, hC, hle'⟩ := entBx_get hb ho k B hg
    have hbb := hle' _ _ _ _ (hr.box k C hC)
    exact hbb.mono (fun _ _ h => h) hmono (fun _ _ => rfl)
  · obtain ⟨C, hC, _⟩ := entBx_get hb ho k B hg
    exact hr.own k C b hC hkb
  · obtain ⟨C, hC, _⟩ := entBx_get hb ho k B hg
    obtain ⟨C', hC', _⟩ := entBx_get hb ho k' B' hg'
    exact hr.dist k k' C C' b hC hC' hkb hkb'

/-- The end of a function that hands back a row of its own. -/
theorem fin_vec {fn : Func} {k ty sz n n' : Nat} {g g' : Nat → List V} (hf : P.funcs[f]? = some fn) (h : evRes P S fn.results.toList = some [.vec k]) (h0 : aget S.bx k = some (.vec ty sz n g)) (hn : n = n') (hg : ∀ i, i < n → g i = g' i) :
    Fin P f 0 (.vec 0) [(0, .vec ty sz n' g')] S := by
  subst hn
  refine ⟨fn, hf, fun E σ a w hr hff hnx => ?_⟩
  obtain ⟨v, h1, h2⟩ := packRes_run h hr
  cases h2 with
  | data hd => cases hd
  | vec v hv =>
    have hone : ∀ q B, aget [((0 : Nat), Box.vec ty sz n g')] q = some B → q = 0 ∧ B = .vec ty sz n g' := by
      intro q B hq
      simp only [aget] at hq
      split at hq
      · rename_i hb
        rw [Nat.beq_eq] at hb
        injection hq with hq
        exact ⟨hb.symm, hq.symm⟩
      · cases hq
    have hbad : ∀ b, ¬ badOf E σ S.bx b → ¬ badOf E (fun q => if q = 0 then σ k else none) [((0 : Nat), Box.vec ty sz n g')] b := by
      intro b hnb
      rintro (h3 | ⟨q, B, hq, hqb⟩)
      · exact hnb (.inl h3)
      · obtain ⟨rfl, rfl⟩ := hone q B hq
        exact hnb (.inr ⟨k, _, h0, by simpa using hqb⟩)
    refine ⟨v, fun q => if q = 0 then σ k else none, h1, fun q hq => absurd hq (Nat.not_lt_zero q), .vec v (by simpa using hv), ⟨fun q B hq => ?_, fun q B b hq hqb => ?_, fun q q' B B' b hq hq' _ _ => ?_, hr.os, hr.tape, hr.output, hr.size, hr.old, hr.hbad⟩⟩
    · obtain ⟨rfl, rfl⟩ := hone q B hq
      cases hr.box k _ h0 with
      | vec v' xs hk ho hl hc =>
        refine .vec v' xs (by simpa using hk) ho (fun i hi => by rw [← hg i hi]; exact hl i hi) fun i j s hi hs => ?_
        obtain ⟨x, h3, h4⟩ := hc i j s hi (by rw [hg i hi]; exact hs)
        exact ⟨x, h3, h4.mono fun b _ hnb => ⟨hbad b hnb, rfl⟩⟩
    · obtain ⟨rfl, rfl⟩ := hone q B hq
      exact hr.own k _ b h0 (by simpa using hqb)
    · rw [(hone q B hq).1, (hone q' B' hq').1]
end
end Go.Hb
