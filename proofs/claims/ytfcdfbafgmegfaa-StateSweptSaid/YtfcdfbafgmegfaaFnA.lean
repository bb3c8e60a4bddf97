/- Printed by wip/tools/Walk.lean out of wip/walks/A.lean: each stretch of code, with a continuation per path. -/
import Derived.Test.YtfcdfbafgmegfaaDtA
import Derived.Test.YtfcdfbafgmegfaaChecked
namespace Go.Hb
open Go.RowKit Go.Proofs
set_option maxRecDepth 100000
set_option linter.unusedVariables false
theorem w83_0 (l : Sq Prc) (g : Nat) (caps : List V) {Q : V → Prop}
    (c_ : GoToE Try.prog 83 Q (headOf Try.f83 0) ⟨19, 1000, [(0, prcs l), (1, .fn (g) [.rfp (caps) 0]), (7, .int .i64 ((↑l.n : Int))), (8, .int .i64 ((0 : Int)))], []⟩) :
    GoToE Try.prog 83 Q [.code (bodyOf Try.f83)] (St0 Try.f83 0 [prcs l, .fn g [.rfp caps 0]] []) :=
  GoToE.segAt (by kernel_rfl) (pre := []) (sc := []) (stop := []) (ps := []) (nx := 1000) (fs := [0, 1, 7, 8]) (R := []) (obs := []) (by kernel_rfl) trivial c_

theorem w83_1 (l : Sq Prc) (g : Nat) (caps : List V) (i : Int) (b : Bool) {Q : V → Prop}
    (c_tt : (decide (i < (↑l.n : Int))) = true → (b) = true → (((0 : Int) ≤ i ∧ i < (↑l.n : Int))) ∧ (SpecD Try.prog (g) [.agg (l.f i.toNat).e, .rfp (caps) 0] (.bool (b))) ∧ Q (.int .i64 (i)))
    (c_tf : (decide (i < (↑l.n : Int))) = true → (b) = false → (((0 : Int) ≤ i ∧ i < (↑l.n : Int))) ∧ (SpecD Try.prog (g) [.agg (l.f i.toNat).e, .rfp (caps) 0] (.bool (b))) ∧ GoToE Try.prog 83 Q (headOf Try.f83 0) ⟨19, 1000, [(0, prcs l), (1, .fn (g) [.rfp (caps) 0]), (7, .int .i64 ((↑l.n : Int))), (8, .int .i64 (IntKind.i64.wrap (i + (1 : Int))))], []⟩)
    (c_f : (decide (i < (↑l.n : Int))) = false → Q (.int .i64 ((-1 : Int)))) :
    GoToE Try.prog 83 Q (headOf Try.f83 0) ⟨19, 1000, [(0, prcs l), (1, .fn (g) [.rfp (caps) 0]), (7, .int .i64 ((↑l.n : Int))), (8, .int .i64 i)], []⟩ :=
  (Bool.eq_false_or_eq_true (decide (i < (↑l.n : Int)))).elim (fun d0 => (Bool.eq_false_or_eq_true (b)).elim (fun d1 => GoToE.segEnd (by kernel_rfl) (Try.func83) (pre := []) (sc := [(4, [(5, .vdec (.bool b) true)]), (2, [(0, .dec true)])]) (ps := []) (obs := [decide (i < (↑l.n : Int)) = true, ((0 : Int) ≤ i ∧ i < (↑l.n : Int)), b = true, SpecD Try.prog (g) [.agg (l.f i.toNat).e, .rfp (caps) 0] (.bool (b))]) (by kernel_rfl) ⟨d0, (c_tt d0 d1).1, d1, (c_tt d0 d1).2.1, trivial⟩ (c_tt d0 d1).2.2) (fun d1 => GoToE.segAt (by kernel_rfl) (pre := []) (sc := [(4, [(5, .vdec (.bool b) false)]), (2, [(0, .dec true)])]) (stop := []) (ps := []) (nx := 1000) (fs := [0, 1, 7, 8]) (R := []) (obs := [decide (i < (↑l.n : Int)) = true, ((0 : Int) ≤ i ∧ i < (↑l.n : Int)), b = false, SpecD Try.prog (g) [.agg (l.f i.toNat).e, .rfp (caps) 0] (.bool (b))]) (by kernel_rfl) ⟨d0, (c_tf d0 d1).1, d1, (c_tf d0 d1).2.1, trivial⟩ (c_tf d0 d1).2.2)) (fun d0 => GoToE.segEnd (by kernel_rfl) (Try.func83) (pre := []) (sc := [(4, [(5, .val (.bool b))]), (2, [(0, .dec false)])]) (ps := []) (obs := [decide (i < (↑l.n : Int)) = false]) (by kernel_rfl) ⟨d0, trivial⟩ (c_f d0))

end Go.Hb
/-
  THE FUNCTIONS, PART A: who goes on (sched.Pick and the document's).
-/
namespace Go.Hb
open Go.RowKit Go.Proofs

theorem wrap_succ {i n : Nat} (h : i < n) (hn : n ≤ 140737488355328) : IntKind.i64.wrap ((i : Int) + 1) = ((i + 1 : Nat) : Int) := by
  rw [IntWalk.i64_in _ (by omega)]; rfl

def idxF (q : Nat → Bool) : Nat → Nat → Int
  | 0, _ => -1
  | k + 1, i => if q i = true then i else idxF q k (i + 1)

theorem idxF_ok {q : Nat → Bool} : ∀ {k i : Nat}, (idxF q k i = -1 ∧ ∀ j, i ≤ j → j < i + k → q j = false) ∨ ∃ j : Nat, idxF q k i = j ∧ i ≤ j ∧ j < i + k ∧ q j = true ∧ ∀ t, i ≤ t → t < j → q t = false
  | 0, i => .inl ⟨rfl, fun j h1 h2 => absurd h2 (by omega)⟩
  | k + 1, i => by
    unfold idxF
    by_cases h : q i = true
    · rw [if_pos h]
      exact .inr ⟨i, rfl, by omega, by omega, h, fun t h1 h2 => absurd h2 (by omega)⟩
    · rw [if_neg h]
      rcases @idxF_ok q k (i + 1) with ⟨h1, h2⟩ | ⟨j, h1, h2, h3, h4, h5⟩
      · refine .inl ⟨h1, fun j h3 h4 => ?_⟩
        by_cases hj : j = i
        · subst hj; simpa using h
        · exact h2 j (by omega) (by omega)
      · refine .inr ⟨j, h1, by omega, by omega, h4, fun t h6 h7 => ?_⟩
        by_cases ht : t = i
        · subst ht; simpa using h
        · exact h5 t (by omega) h7

theorem index_at (l : Sq Prc) (g : Nat) (caps : List V) (q : Nat → Bool) (hn : l.n ≤ 140737488355328) (h : ∀ i, i < l.n → SpecD Try.prog g [.agg (l.f i).e, .rfp caps 0] (.bool (q i))) : ∀ (k i : Nat), i + k = l.n →
    GoToE Try.prog 83 (Eq (.int .i64 (idxF q k i))) (headOf Try.f83 0) ⟨19, 1000, [(0, prcs l), (1, .fn (g) [.rfp (caps) 0]), (7, .int .i64 (↑l.n)), (8, .int .i64 i)], []⟩ := by
  intro k
  induction k with
  | zero =>
    intro i hi
    apply w83_1 l g caps i false
    case c_f => intro _; rfl
    all_goals (intro h; simp only [decide_eq_true_eq] at h; omega)
  | succ k ih =>
    intro i hi
    have hw := wrap_succ (i := i) (n := l.n) (by omega) hn
    have hb : (0 : Int) ≤ i ∧ (i : Int) < l.n := by omega
    apply w83_1 l g caps i (q i)
    case c_f => intro h; simp only [decide_eq_false_iff_not] at h; omega
    case c_tt => intro _ hq; exact ⟨hb, h i (by omega), by simp [idxF, hq]⟩
    case c_tf =>
      intro _ hq
      refine ⟨hb, h i (by omega), ?_⟩
      rw [hw]
      have := ih (i + 1) (by omega)
      simpa [idxF, hq] using this

theorem index_spec (l : Sq Prc) (g : Nat) (caps : List V) (q : Nat → Bool) (hn : l.n ≤ 140737488355328) (h : ∀ i, i < l.n → SpecD Try.prog g [.agg (l.f i).e, .rfp caps 0] (.bool (q i))) :
    SpecD Try.prog 83 [prcs l, .fn g [.rfp caps 0]] (.int .i64 (idxF q l.n 0)) :=
  (specE_of (Try.func83) (by kernel_rfl) (by kernel_rfl) (by kernel_rfl) (w83_0 l g caps (index_at l g caps q hn h l.n 0 (by omega)))).eq

/-- The document's. -/
def goesOn (m : Mac) (i : Nat) : Prop := (m.procs.f i).n 0 = m.cur ∧ (m.procs.f i).n 2 = 1 ∧ 0 < m.left
instance (m : Mac) (i : Nat) : Decidable (goesOn m i) := by unfold goesOn; infer_instance

/-- What may be said of a machine that may be: its processes by rising numbers, from 1 on. -/
structure Rising (m : Mac) : Prop where
  pos : ∀ i, i < m.procs.n → 1 ≤ (m.procs.f i).n 0
  inc : ∀ i, i + 1 < m.procs.n → (m.procs.f i).n 0 < (m.procs.f (i + 1)).n 0

theorem Rising.lt {m : Mac} (h : Rising m) : ∀ {j i : Nat}, i < j → j < m.procs.n → (m.procs.f i).n 0 < (m.procs.f j).n 0 := by
  intro j
  induction j with
  | zero => intro i h1; omega
  | succ j ih =>
    intro i h1 h2
    have := h.inc j h2
    by_cases hij : i = j
    · subst hij; exact this
    · have := ih (i := i) (by omega) (by omega); omega

end Go.Hb
