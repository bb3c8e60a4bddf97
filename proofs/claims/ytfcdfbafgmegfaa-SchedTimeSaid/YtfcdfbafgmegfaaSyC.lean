/-
  THE SYMBOLIC LAYER, PART C: operations that leave the memory alone: what is known of their value ('evR'), and that the model's run hands back just such a value.
-/
import Derived.Test.YtfcdfbafgmegfaaSyB
namespace Go.Hb
open Go.RowKit

/-- All of them hold. -/
def AllP : List Prop → Prop
  | [] => True
  | p :: l => p ∧ AllP l

theorem allP_append {l m : List Prop} : AllP (l ++ m) ↔ AllP l ∧ AllP m := by
  induction l with
  | nil => simp [AllP]
  | cons p l ih => simp [AllP, ih, and_assoc]

/-- What a script says of one operation: nothing; the bool that it comes to; the value that it comes to. -/
inductive Ans where
  | no
  | dec (b : Bool)
  | val (s : V)

section
variable (P : Program)

def agT (t : TypeId) : Option Bool :=
  match P.underlying t with
  | some (.struct _) => some true
  | some (.array _ _) => some true
  | some _ => some false
  | none => none

def szT (t : TypeId) : Option Nat :=
  match P.info? t with
  | some i => some i.size
  | none => none

/-- An operand's value. -/
def evo (fr : List (Nat × V)) : Operand → Option V
  | .tmp t => aget fr t
  | .const v => match ofConst v with
    | .junk => none
    | s => some s
  | .func f => some (.fn f [])
  | .global _ => none

def loadL (t : TypeId) (l : List V) (off : Nat) : Option V :=
  match agT P t with
  | some true => match szT P t with
    | some sz => match Nat.beq off 0 && Nat.beq sz l.length with
      | true => some (.agg l)
      | false => match Nat.ble (off + sz) l.length with
        | true => some (.agg ((l.drop off).take sz))
        | false => none
    | none => none
  | some false => l[off]?
  | none => none

/-- What a told value of a load owes. -/
def loadOb (t : TypeId) (l : List V) (off : Nat) (r : V) : Option (List Prop) :=
  match agT P t with
  | some true => match szT P t with
    | some sz => some [off + sz ≤ l.length, r = .agg ((l.drop off).take sz)]
    | none => none
  | some false => some [l[off]? = some r]
  | none => none

def loadA (t : TypeId) (l : List V) (off : Nat) : Ans → Option (V × List Prop)
  | .val r => match loadOb P t l off r with
    | some obs => some (r, obs)
    | none => none
  | _ => match loadL P t l off with
    | some r => some (r, [])
    | none => none

def evLoad (S : St) (t : TypeId) (x : Operand) (ans : Ans) : Option (V × List Prop) :=
  match evo S.fr x with
  | some (.ptr k off) => match aget S.bx k with
    | some (.cells _ l) => loadA P t l off ans
    | _ => none
  | some (.elp _ _ f i off) => loadA P t (f i) off ans
  | some (.rfp l off) => loadA P t l off ans
  | some (.vptr k sz i off) => match aget S.bx k with
    | some (.vec _ sz' n f) => match Nat.beq sz sz' with
      | true => match loadA P t (f i) off ans with
        | some (r, obs) => some (r, (i < n) :: obs)
        | none => none
      | false => none
    | _ => none
  | _ => none

/-- An address so many cells further on. -/
def V.shift (d : Nat) : V → Option V
  | .ptr k off => some (.ptr k (off + d))
  | .elp sz n f i off => some (.elp sz n f i (off + d))
  | .rfp l off => some (.rfp l (off + d))
  | .vptr k sz i off => some (.vptr k sz i (off + d))
  | _ => none

def evFieldAddr (S : St) (t : TypeId) (x : Operand) (field : Nat) : Option V :=
  match P.underlying t with
  | some (.struct fs) => match fs[field]? with
    | some f => match szT P f.type with
      | some (_ + 1) => match evo S.fr x with
        | some s => s.shift f.offset
        | none => none
      | _ => none
    | none => none
  | _ => none

def evIndexAddr (S : St) (t : TypeId) (x ix : Operand) : Option (V × List Prop) :=
  match evo S.fr ix with
  | some (.int _ i) => match P.underlying t with
    | some (.slice e) => match szT P e with
      | some sz => match evo S.fr x with
        | some (.seq sz' n f) => match Nat.beq sz sz' with
          | true => some (.elp sz n f i.toNat 0, [0 ≤ i ∧ i < (n : Int)])
          | false => none
        | some (.row k off len _) => some (.ptr k (off + i.toNat * sz), [0 ≤ i ∧ i < (len : Int)])
        | some (.vec k) => match aget S.bx k with
          | some (.vec _ sz' n _) => match Nat.beq sz sz' with
            | true => some (.vptr k sz i.toNat 0, [0 ≤ i ∧ i < (n : Int)])
            | false => none
          | _ => none
        | _ => none
      | none => none
    | some (.array len e) => match szT P e with
      | some sz => match evo S.fr x with
        | some s => match s.shift (i.toNat * sz) with
          | some r => some (r, [0 ≤ i ∧ i < (len : Int)])
          | none => none
        | none => none
      | none => none
    | _ => none
  | _ => none
end

section
variable {P : Program} {E : Env} {σ : Nat → Option Value} {S V0 : St} {a : Act} {w : World}

theorem run_isAgg {t : TypeId} {b : Bool} (h : agT P t = some b) (w : World) : (isAgg t).run P w = .ok b w := by
  unfold agT at h
  cases hd : P.underlying t with
  | none => rw [hd] at h; cases h
  | some d =>
    rw [hd] at h
    cases d <;> simp at h <;> subst h <;> simp [isAgg, run_underlying hd]

theorem run_sizeOf {t : TypeId} {n : Nat} (h : szT P t = some n) (w : World) : (sizeOf t).run P w = .ok n w := by
  unfold szT at h
  cases hi : P.info? t with
  | none => rw [hi] at h; cases h
  | some i =>
    rw [hi] at h
    simp at h
    simp [sizeOf, typeInfo, hi, h]

structure Sub (V S : St) : Prop where
  nt : V.nt = S.nt
  fr : ∀ t s, aget V.fr t = some s → aget S.fr t = some s
  bx : ∀ k B, aget V.bx k = some B → aget S.bx k = some B

theorem Sub.refl (S : St) : Sub S S := ⟨rfl, fun _ _ h => h, fun _ _ h => h⟩

theorem evo_ok (hs : Sub V0 S) (h : Rel E σ S a w) {x : Operand} {s : V} (he : evo V0.fr x = some s) : CV σ w (badOf E σ S.bx) s (a.eval x) := by
  cases x with
  | tmp t =>
    obtain ⟨v, hv, hc⟩ := h.fr t s (hs.fr t s he)
    have : a.eval (.tmp t) = v := by simp [Act.eval, hv]
    rw [this]; exact hc
  | const v =>
    simp only [evo] at he
    have hj : ofConst v ≠ .junk := by intro e; rw [e] at he; cases he
    have hs' : s = ofConst v := by
      revert he; generalize ofConst v = q at hj ⊢
      cases q <;> first | (intro he; simpa using he.symm) | exact absurd rfl hj
    subst hs'
    exact .data (ofConst_ok w _ v hj)
  | func f =>
    simp only [evo] at he
    injection he with he; subst he
    exact .data (.fn #[] (fun _ => undef) rfl (by simp) (by simp))
  | global g => simp [evo] at he

/-- Cells that lie in a row. -/
def Lies (w : World) (b o m : Nat) (u : Nat → Value) : Prop := ∀ j, j < m → w.cell? ⟨b, o + j, none⟩ = some (u j)

theorem addr_add (b o n : Nat) : (⟨b, o, none⟩ : Addr).add n = ⟨b, o + n, none⟩ := by
  unfold Addr.add; split <;> simp_all

theorem run_loadCells_lies {b o m : Nat} {u : Nat → Value} (h : Lies w b o m u) (off sz : Nat) (hle : off + sz ≤ m) :
    (loadCells ⟨b, o + off, none⟩ sz).run P w = .ok ((List.range sz).map fun j => u (off + j)).toArray w := by
  have := run_loadCells_list (P := P) w ⟨b, o + off, none⟩ ((List.range sz).map fun j => u (off + j)) (fun j v hv => by
    rw [addr_add, Nat.add_assoc]
    have hj : j < sz := by simpa using (List.getElem?_eq_some_iff.1 hv).1
    rw [h (off + j) (by omega)]
    rw [← hv]; simp [hj])
  simpa using this

theorem loadOb_ok {t : TypeId} {l : List V} {off : Nat} {r : V} {obs : List Prop} {bad : Nat → Prop} (h : loadOb P t l off r = some obs) (ho : AllP obs)
    {b o : Nat} {u : Nat → Value} (hl : Lies w b o l.length u) (hc : ∀ (j : Nat) (s : V), l[j]? = some s → CV σ w bad s (u j)) (h1 : ∀ j, j < l.length → (u j).oneCell' = true) :
    ∃ v, (loadVar t ⟨b, o + off, none⟩).run P w = .ok v w ∧ CV σ w bad r v := by
  unfold loadOb at h
  split at h
  · rename_i hag
    split at h
    · rename_i sz hsz
      injection h with h; subst h
      obtain ⟨hle, hr, _⟩ := ho
      subst hr
      refine ⟨.agg ((List.range sz).map fun j => u (off + j)).toArray, ?_, ?_⟩
      · simp [loadVar, run_isAgg hag, run_sizeOf hsz, run_loadCells_lies hl off sz hle]
      · have hlen : ((l.drop off).take sz).length = sz := by simp; omega
        refine .agg _ (fun j => u (off + j)) (by simp; omega) (fun j hj => ?_) (fun j hj => ?_) fun j s hj => ?_
        · rw [hlen] at hj; simp [hj]
        · rw [hlen] at hj; exact h1 _ (by omega)
        · have hjs : j < sz := by have := (List.getElem?_eq_some_iff.1 hj).1; rw [hlen] at this; exact this
          refine hc (off + j) s ?_
          rw [List.getElem?_take, if_pos hjs, List.getElem?_drop] at hj
          exact hj
    · cases h
  · rename_i hag
    injection h with h; subst h
    obtain ⟨hr, _⟩ := ho
    have hlt := (List.getElem?_eq_some_iff.1 hr).1
    refine ⟨u off, ?_, hc off r hr⟩
    simp [loadVar, run_isAgg hag, load, Sem.run, hl off hlt]
  · cases h

theorem loadA_ok {t : TypeId} {l : List V} {off : Nat} {r : V} {obs : List Prop} {ans : Ans} {bad : Nat → Prop} (h : loadA P t l off ans = some (r, obs)) (ho : AllP obs)
    {b o : Nat} {u : Nat → Value} (hl : Lies w b o l.length u) (hc : ∀ (j : Nat) (s : V), l[j]? = some s → CV σ w bad s (u j)) (h1 : ∀ j, j < l.length → (u j).oneCell' = true) :
    ∃ v, (loadVar t ⟨b, o + off, none⟩).run P w = .ok v w ∧ CV σ w bad r v := by
  have plain : ∀ r, loadL P t l off = some r → ∃ obs, loadOb P t l off r = some obs ∧ AllP obs := by
    intro r hr
    unfold loadL at hr
    unfold loadOb
    split at hr
    · split at hr
      · rename_i sz hsz
        split at hr
        · rename_i hz
          simp only [Bool.and_eq_true, Nat.beq_eq] at hz
          injection hr with hr
          refine ⟨_, rfl, ?_, ?_, trivial⟩
          · omega
          · rw [← hr, hz.1, hz.2]; simp
        · split at hr
          · rename_i hle
            have hle' := Nat.le_of_ble_eq_true hle
            injection hr with hr
            exact ⟨_, rfl, hle', hr.symm, trivial⟩
          · cases hr
      · cases hr
    · exact ⟨_, rfl, hr, trivial⟩
    · cases hr
  unfold loadA at h
  split at h
  · split at h
    · rename_i obs' hob
      injection h with h
      injection h with h1' h2'
      subst h1' h2'
      exact loadOb_ok hob ho hl hc h1
    · cases h
  · split at h
    · rename_i hr
      injection h with h
      injection h with h1' h2'
      subst h1' h2'
      obtain ⟨obs', h3, h4⟩ := plain _ hr
      exact loadOb_ok h3 h4 hl hc h1
    · cases h

theorem BRel.lies_cells {bad : Nat → Prop} {k ty : Nat} {l : List V} (h : BRel σ w bad k (.cells ty l)) :
    ∃ b u, σ k = some (.pointer (some ⟨b, 0, none⟩)) ∧ Lies w b 0 l.length u ∧ (∀ (j : Nat) (s : V), l[j]? = some s → CV σ w bad s (u j)) ∧ ∀ j, j < l.length → (u j).oneCell' = true := by
  cases h with
  | cells b cs hk hh hs hc =>
    refine ⟨b, fun j => cs.getD j undef, hk, fun j hj => ?_, fun j s hj => ?_, fun j hj => ?_⟩
    · simp [World.cell?, hh, hs, hj]
    · obtain ⟨v, hv, h2, _⟩ := hc j s hj
      simpa [hv] using h2
    · obtain ⟨v, hv, _, h3⟩ := hc j l[j] (List.getElem?_eq_getElem hj)
      simpa [hv] using h3

theorem BRel.lies_vec {bad : Nat → Prop} {k ty sz n : Nat} {f : Nat → List V} (h : BRel σ w bad k (.vec ty sz n f)) {i : Nat} (hi : i < n) :
    ∃ b c u, σ k = some (.slice (some ⟨b, 0, none⟩) n c) ∧ Lies w b (i * sz) (f i).length u ∧ (∀ (j : Nat) (s : V), (f i)[j]? = some s → CV σ w bad s (u j)) ∧ ∀ j, j < (f i).length → (u j).oneCell' = true := by
  cases h with
  | vec v xs hk ho hl hc =>
    obtain ⟨hlen, h2⟩ := ho
    rcases h2 with ⟨_, h0⟩ | ⟨g, cap, cur, rfl, _, hg, hnc, _, hcur, htake⟩
    · omega
    · refine ⟨g, cap, fun j => xs.getD (i * sz + j) undef, hk, fun j hj => ?_, fun j s hj => ?_, fun j hj => ?_⟩
      · rw [hl i hi] at hj
        have hlt : i * sz + j < n * sz := by
          have : (i + 1) * sz ≤ n * sz := Nat.mul_le_mul_right sz hi
          rw [Nat.add_mul] at this; omega
        have hx : xs[i * sz + j]? = some (xs.getD (i * sz + j) undef) := by simp [List.getD, List.getElem?_eq_getElem (show i * sz + j < xs.length by omega)]
        rw [cell_of_row w g _ cur ty (0, 0) hg, ← hx, ← htake, List.getElem?_take, if_pos hlt]
        simp
      · obtain ⟨x, hx, h3⟩ := hc i j s hi hj
        exact .data (by simpa [hx] using h3)
      · obtain ⟨x, hx, h4⟩ := hc i j _ hi (List.getElem?_eq_getElem hj)
        simpa [hx] using h4.oneCell

theorem CD.lies_seq {bad : Nat → Prop} {sz n : Nat} {f : Nat → List V} {b o c : Nat} (h : CD w bad (.seq sz n f) (.slice (some ⟨b, o, none⟩) n c)) {i : Nat} (hi : i < n) :
    ∃ u, Lies w b (o + i * sz) (f i).length u ∧ (∀ (j : Nat) (s : V), (f i)[j]? = some s → CD w bad s (u j)) ∧ ∀ j, j < (f i).length → (u j).oneCell' = true := by
  cases h with
  | seq _ b' o' c u ho hnc hl hc hd =>
    have he := ho (by omega)
    injection he with he
    injection he with h1 h2
    subst h1 h2
    refine ⟨u i, fun j hj => ?_, fun j s hj => hd i j s hi hj, fun j hj => (hd i j _ hi (List.getElem?_eq_getElem hj)).oneCell⟩
    rw [Nat.add_assoc]
    exact (hc i j hi (by rw [← hl i hi]; exact hj)).2

theorem evLoad_ok {t : TypeId} {x : Operand} {ans : Ans} {r : V} {obs : List Prop} (he : evLoad P V0 t x ans = some (r, obs)) (ho : AllP obs) (hs : Sub V0 S) (h : Rel E σ S a w) :
    ∃ v, (Instr.loadAt t (a.eval x)).run P w = .ok v w ∧ CV σ w (badOf E σ S.bx) r v := by
  unfold evLoad at he
  split at he
  · rename_i k off hx
    have hv := evo_ok hs h hx
    split at he
    · rename_i ty l hk
      obtain ⟨b, u, hσ, hl, hc, h1⟩ := (h.box k _ (hs.bx _ _ hk)).lies_cells
      obtain ⟨v, hrun, hcv⟩ := loadA_ok he ho hl hc h1
      refine ⟨v, ?_, hcv⟩
      generalize a.eval x = y at hv ⊢
      cases hv with
      | data hd => cases hd
      | ptr b' hb' =>
        rw [hσ] at hb'
        injection hb' with hb'
        injection hb' with hb'
        injection hb' with hb'
        injection hb' with hb'
        subst hb'
        rw [Nat.zero_add] at hrun
        simpa [Instr.loadAt, Instr.sureAddr] using hrun
    · cases he
  · rename_i hx
    have hv := evo_ok hs h hx
    generalize a.eval x = y at hv ⊢
    cases hv with
    | data hd => cases hd
    | elp b o c hd hi =>
      obtain ⟨u, hl, hc, h1⟩ := hd.lies_seq hi
      obtain ⟨v, hrun, hcv⟩ := loadA_ok (σ := σ) he ho hl (fun j s hj => .data (hc j s hj)) h1
      refine ⟨v, ?_, hcv⟩
      rw [Nat.add_assoc] at hrun
      simpa [Instr.loadAt, Instr.sureAddr] using hrun
  · rename_i l off hx
    have hv := evo_ok hs h hx
    generalize a.eval x = y at hv ⊢
    cases hv with
    | data hd =>
      cases hd with
      | rfp b o u hc hd =>
        obtain ⟨v, hrun, hcv⟩ := loadA_ok (σ := σ) he ho (fun j hj => (hc j hj).2) (fun j s hj => .data (hd j s hj)) (fun j hj => (hd j _ (List.getElem?_eq_getElem hj)).oneCell)
        exact ⟨v, by simpa [Instr.loadAt, Instr.sureAddr] using hrun, hcv⟩
  · rename_i k sz i off hx
    have hv := evo_ok hs h hx
    split at he
    · rename_i ty sz' n f hk
      split at he
      · rename_i hsz
        rw [Nat.beq_eq] at hsz
        subst hsz
        split at he
        · rename_i r' obs' hl'
          injection he with he
          injection he with h1' h2'
          subst h1' h2'
          have hi : i < n := ho.1
          obtain ⟨b, c, u, hσ, hl, hc, h1⟩ := (h.box k _ (hs.bx _ _ hk)).lies_vec hi
          obtain ⟨v, hrun, hcv⟩ := loadA_ok hl' ho.2 hl hc h1
          refine ⟨v, ?_, hcv⟩
          generalize a.eval x = y at hv ⊢
          cases hv with
          | data hd => cases hd
          | vptr b' n' c' hb' =>
            rw [hσ] at hb'
            injection hb' with hb'
            injection hb' with hb'
            injection hb' with hb'
            injection hb' with hb'
            subst hb'
            simpa [Instr.loadAt, Instr.sureAddr] using hrun
        · cases he
      · cases he
    · cases he
  · cases he

theorem shift_ok {bad : Nat → Prop} {s r : V} {d : Nat} (he : s.shift d = some r) {v : Value} (hv : CV σ w bad s v) : ∃ b o, v = .pointer (some ⟨b, o, none⟩) ∧ CV σ w bad r (.pointer (some ⟨b, o + d, none⟩)) := by
  cases hv with
  | data hd =>
    cases hd with
    | rfp b o u hc hd =>
      simp only [V.shift] at he
      injection he with he; subst he
      exact ⟨b, _, rfl, by rw [Nat.add_assoc]; exact .data (.rfp b o u hc hd)⟩
    | _ => simp [V.shift] at he
  | ptr b h =>
    simp only [V.shift] at he
    injection he with he; subst he
    exact ⟨b, _, rfl, .ptr b h⟩
  | vptr b n c h =>
    simp only [V.shift] at he
    injection he with he; subst he
    exact ⟨b, _, rfl, by rw [Nat.add_assoc]; exact .vptr b n c h⟩
  | elp b o c h hi =>
    simp only [V.shift] at he
    injection he with he; subst he
    exact ⟨b, _, rfl, by rw [Nat.add_assoc, Nat.add_assoc]; exact .elp b o c h hi⟩
  | _ => simp [V.shift] at he

theorem evFieldAddr_ok {t : TypeId} {x : Operand} {field : Nat} {r : V} (he : evFieldAddr P V0 t x field = some r) (hs : Sub V0 S) (h : Rel E σ S a w) :
    ∃ v, (Instr.fieldAt t (a.eval x) field).run P w = .ok v w ∧ CV σ w (badOf E σ S.bx) r v := by
  unfold evFieldAddr at he
  split at he
  · rename_i fs ht
    split at he
    · rename_i f hf
      split at he
      · rename_i n hsz
        split at he
        · rename_i s hx
          obtain ⟨b, o, hv, hr⟩ := shift_ok he (evo_ok hs h hx)
          refine ⟨_, ?_, hr⟩
          rw [hv]
          simp [Instr.fieldAt, run_underlying ht, hf, Instr.sureAddr, fieldPlace, run_sizeOf hsz, addr_add]
        · cases he
      · cases he
    · cases he
  · cases he

theorem evIndexAddr_ok {t : TypeId} {x ix : Operand} {r : V} {obs : List Prop} (he : evIndexAddr P V0 t x ix = some (r, obs)) (ho : AllP obs) (hs : Sub V0 S) (h : Rel E σ S a w) :
    ∃ v, (Instr.indexAt t (a.eval x) (a.eval ix)).run P w = .ok v w ∧ CV σ w (badOf E σ S.bx) r v := by
  unfold evIndexAddr at he
  split at he
  · rename_i k i hix
    have hvi := evo_ok hs h hix
    generalize a.eval ix = yi at hvi ⊢
    cases hvi with
    | data hd =>
      cases hd
      split at he
      · rename_i e ht
        split at he
        · rename_i sz hsz
          split at he
          · rename_i sz' n f hx
            split at he
            · rename_i hz
              rw [Nat.beq_eq] at hz
              subst hz
              injection he with he
              injection he with h1 h2
              subst h1 h2
              have hi : 0 ≤ i ∧ i < (n : Int) := ho.1
              have hv := evo_ok hs h hx
              generalize a.eval x = y at hv ⊢
              cases hv with
              | data hd =>
                have hd0 := hd
                cases hd with
                | seq o b off c u hoo hnc hl hc hd =>
                  obtain rfl := hoo (by omega)
                  refine ⟨_, ?_, .elp b off c hd0 (by omega)⟩
                  simp [Instr.indexAt, asIntOf, run_underlying ht, hi, run_sizeOf hsz, addr_add]
            · cases he
          · rename_i kk off len cap hx
            injection he with he
            injection he with h1 h2
            subst h1 h2
            have hi : 0 ≤ i ∧ i < (len : Int) := ho.1
            have hv := evo_ok hs h hx
            generalize a.eval x = y at hv ⊢
            cases hv with
            | data hd => cases hd
            | row b hb =>
              refine ⟨_, ?_, .ptr b hb⟩
              simp [Instr.indexAt, asIntOf, run_underlying ht, hi, run_sizeOf hsz, addr_add]
          · rename_i kk hx
            split at he
            · rename_i ty sz' n f hk
              split at he
              · rename_i hz
                rw [Nat.beq_eq] at hz
                subst hz
                injection he with he
                injection he with h1 h2
                subst h1 h2
                have hi : 0 ≤ i ∧ i < (n : Int) := ho.1
                obtain ⟨b, c, u, hσ, _⟩ := (h.box kk _ (hs.bx _ _ hk)).lies_vec (i := i.toNat) (by omega)
                have hv := evo_ok hs h hx
                generalize a.eval x = y at hv ⊢
                cases hv with
                | data hd => cases hd
                | vec v hb =>
                  rw [hσ] at hb
                  injection hb with hb
                  subst hb
                  refine ⟨_, ?_, .vptr b n c hσ⟩
                  simp [Instr.indexAt, asIntOf, run_underlying ht, hi, run_sizeOf hsz, addr_add]
              · cases he
            · cases he
          · cases he
        · cases he
      · rename_i len e ht
        split at he
        · rename_i sz hsz
          split at he
          · rename_i s hx
            split at he
            · rename_i r' hr'
              injection he with he
              injection he with h1 h2
              subst h1 h2
              have hi : 0 ≤ i ∧ i < (len : Int) := ho.1
              obtain ⟨b, o, hv, hr⟩ := shift_ok hr' (evo_ok hs h hx)
              refine ⟨_, ?_, hr⟩
              rw [hv]
              simp [Instr.indexAt, asIntOf, run_underlying ht, hi, run_sizeOf hsz, Instr.sureAddr, addr_add]
            · cases he
          · cases he
        · cases he
      · cases he
  · cases he
end
end Go.Hb
