/-
  THE SYMBOLIC LAYER, PART P: from a point of a function's code on ('GoTo'); a contract out of it ('spec_of').
-/
import Derived.Test.YtfcdfbafgmegfaaSyO
namespace Go.Hb
open Go.RowKit

/-- From this point on the function hands back 'res', and leaves the boxes 'bx1'. -/
def GoTo (P : Program) (f : FuncId) (m : Nat) (res : V) (bx1 : List (Nat × Box)) (todo : List Item) (S : St) : Prop :=
  ∀ (E : Env) (σ : Nat → Option Value) (a : Act) (w : World) (b : Frame) (cs : List Frame), b.fn = f → b.kind = .normal → Rel E σ S a w → (∀ k, S.nx ≤ k → σ k = none) → m ≤ S.nx →
    ∃ e w' fr, Comes P (lone (b.at a todo) cs w) (lone fr cs w') e ∧ fr.fn = f ∧ fr.leaving P w' e ∧ ∃ v σ', e = .returned v ∧ (∀ k, k < m → σ' k = σ k) ∧ CV σ' w' (badOf E σ' bx1) res v ∧ Mem E σ' bx1 w'

section
variable (P : Program)
/-- The results, read out of the slots and the boxes. -/
def evRes (S : St) : List ResultVar → Option (List V)
  | [] => some []
  | .tmp t :: l => match aget S.fr t, evRes S l with
    | some s, some r => some (s :: r)
    | _, _ => none
  | .cell p t :: l => match evLoad P S t (.tmp p) .no, evRes S l with
    | some (s, []), some r => some (s :: r)
    | _, _ => none

def packRes : List V → V
  | [s] => s
  | l => .tup l
end

/-- At the end: the results are there. -/
def Fin (P : Program) (f : FuncId) (m : Nat) (res : V) (bx1 : List (Nat × Box)) (S : St) : Prop :=
  ∃ fn, P.funcs[f]? = some fn ∧ ∀ (E : Env) (σ : Nat → Option Value) (a : Act) (w : World), Rel E σ S a w → (∀ k, S.nx ≤ k → σ k = none) → m ≤ S.nx →
    ∃ v σ', (results fn a.tmps).run P w = .ok v w ∧ (∀ k, k < m → σ' k = σ k) ∧ CV σ' w (badOf E σ' bx1) res v ∧ Mem E σ' bx1 w

section
variable {P : Program} {f : FuncId} {m : Nat} {res : V} {bx1 : List (Nat × Box)} {E : Env} {σ σ' : Nat → Option Value} {S S' : St} {a : Act} {w : World}

theorem GoTo.onto {todo todo' : List Item} (hs : ∀ (b : Frame) (a : Act) (cs : List Frame) (w : World), step P (lone (b.at a todo) cs w) = .next (lone (b.at a todo') cs w)) (h : GoTo P f m res bx1 todo' S) : GoTo P f m res bx1 todo S := by
  intro E σ a w b cs hb hk hr hf hnx
  obtain ⟨e, w', fr, h1, h2⟩ := h E σ a w b cs hb hk hr hf hnx
  exact ⟨e, w', fr, h1.of_steps (.one (hs b a cs w)), h2⟩

theorem GoTo.fin {todo : List Item} (hs : ∀ (b : Frame) (a : Act) (cs : List Frame) (w : World), ∃ todo', Go.step P (lone (b.at a todo) cs w) = .next (lone { b.at a todo' with mode := .returning } cs w)) (h : Fin P f m res bx1 S) : GoTo P f m res bx1 todo S := by
  intro E σ a w b cs hb hk hr hf hnx
  obtain ⟨fn, hfn, h⟩ := h
  obtain ⟨v, σ', h1, h2, h3, h4⟩ := h E σ a w hr hf hnx
  obtain ⟨todo', hst⟩ := hs b a cs w
  refine ⟨.returned v, w, { b.at a todo' with mode := .returning }, .one hst, hb, ⟨rfl, hr.dfs, hk, fn, by show P.funcs[b.fn]? = some fn; rw [hb]; exact hfn, h1⟩, v, σ', rfl, h2, h3, h4⟩

theorem region_nx {base : Nat} {ops : Array Oper} {draw : Bool} {sc : List (Nat × An)} {S S1 : St} {obs : List Prop} (hreg : region P base ops draw sc S = some (S1, obs)) : S1.nx = base + ops.size := by
  unfold region at hreg
  split at hreg
  · split at hreg
    · injection hreg with hreg; injection hreg with h3 h4; subst h3; simp
    · cases hreg
  · split at hreg
    · split at hreg
      · injection hreg with hreg; injection hreg with h3 h4; subst h3; simp
      · cases hreg
    · cases hreg

/-- The heads of a function's loops, in the order of the text. -/
def loops : Code → List Item → List (List Item)
  | .seq a b, k => loops a (.code b :: k) ++ loops b k
  | .cond _ x y, k => loops x k ++ loops y k
  | .block id c, k => loops c (.inBlock id :: k)
  | .loop c, k => (.code c :: .inLoop c :: k) :: loops c (.inLoop c :: k)
  | _, _ => []

def bodyOf (fn : Func) : Code :=
  match fn.body with
  | some c => c
  | none => .skip

def headOf (fn : Func) (n : Nat) : List Item := (loops (bodyOf fn) []).getD n []

/-- Each region with what is to be done from it on. -/
def regs : Code → List Item → List (Nat × List Item)
  | .seq a b, k => regs a (.code b :: k) ++ regs b k
  | .cond _ x y, k => regs x k ++ regs y k
  | .block id c, k => regs c (.inBlock id :: k)
  | .loop c, k => regs c (.inLoop c :: k)
  | .region id ops d, k => [(id, .code (.region id ops d) :: k)]
  | _, _ => []

def cutOf (fn : Func) (id : Nat) : List Item :=
  match aget (regs (bodyOf fn) []) id with
  | some l => l
  | none => []

def numFr : Nat → List V → List (Nat × V)
  | _, [] => []
  | i, s :: l => (i, s) :: numFr (i + 1) l

theorem numFr_get : ∀ {l : List V} {i t : Nat} {s : V}, aget (numFr i l) t = some s → i ≤ t ∧ l[t - i]? = some s
  | [], i, t, s, h => by simp [numFr, aget] at h
  | x :: l, i, t, s, h => by
    simp only [numFr, aget] at h
    split at h
    · rename_i hb
      rw [Nat.beq_eq] at hb
      subst hb
      injection h with h; subst h
      exact ⟨Nat.le_refl _, by simp⟩
    · rename_i hb
      obtain ⟨h1, h2⟩ := numFr_get h
      refine ⟨by omega, ?_⟩
      rw [show t - i = (t - (i + 1)) + 1 from by omega]
      simpa using h2

/-- Where a call begins. -/
def St0 (fn : Func) (m : Nat) (args : List V) (bx : List (Nat × Box)) : St := { nt := fn.ntmps, nx := m, fr := numFr 0 args, bx := bx }

/-- A contract, by a run through the function's code. -/
theorem spec_of {fn : Func} {args : List V} {bx : List (Nat × Box)} (hf : P.funcs[f]? = some fn) (hname : (fn.name == "runtime.NumGoroutine") = false) (hb : fn.body = some (bodyOf fn)) (hn : args.length ≤ fn.ntmps) 
    (h : GoTo P f m res bx1 [.code (bodyOf fn)] (St0 fn m args bx)) : Spec P f m args bx res bx1 := by
  refine ⟨enters_of hf hname hb, fun E σ vals hmem hσ hsz hargs cs => ?_⟩
  have henter : Frame.enter P f vals .normal = ({ (default : Frame) with fn := f, kind := .normal } : Frame).at { tmps := vals ++ Array.replicate (fn.ntmps - vals.size) undef, defers := [] } [.code (bodyOf fn)] := by
    simp [Frame.enter, Frame.at, hf, hb]
  have hrel : Rel E σ (St0 fn m args bx) { tmps := vals ++ Array.replicate (fn.ntmps - vals.size) undef, defers := [] } E.w0 := by
    refine ⟨hmem, rfl, ?_, fun t s ht => ?_⟩
    · simp [St0]; omega
    · obtain ⟨_, h2⟩ := numFr_get (show aget (numFr 0 args) t = some s from ht)
      rw [Nat.sub_zero] at h2
      obtain ⟨v, hv, hc⟩ := hargs t s h2
      refine ⟨v, ?_, hc⟩
      have := (Array.getElem?_eq_some_iff.1 hv).1
      rw [Array.getElem?_append, if_pos this]; exact hv
  obtain ⟨e, w', fr, h1, h2, h3, v, σ', h4, h5, h6, h7⟩ := h E σ _ E.w0 { (default : Frame) with fn := f, kind := .normal } cs rfl rfl hrel hσ (Nat.le_refl _)
  rw [← henter] at h1
  exact ⟨e, w', fr, ⟨v, σ', h4, h5, h6, h7⟩, h1, h2, h3⟩
end
end Go.Hb
