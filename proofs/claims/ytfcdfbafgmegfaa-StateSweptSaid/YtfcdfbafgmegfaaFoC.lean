/-
  THE FUNCTIONS, PART M: who could go on; the machine in which they are awake.
-/
import Derived.Test.YtfcdfbafgmegfaaWkV
import Derived.Test.YtfcdfbafgmegfaaDtA
import Derived.Test.YtfcdfbafgmegfaaChecked
import Derived.Test.YtfcdfbafgmegfaaFnZ
import Derived.Test.YtfcdfbafgmegfaaFoB
namespace Go.Hb
open Go.RowKit Go.Proofs
set_option maxRecDepth 100000

/-- A pipe's ends: how many open files read it, and write it. -/
def incI (c : Bool) (a : Int) : Int := if c then IntKind.i64.wrap (a + 1) else a
def endsJ (p : Prc) (y : Int) : Nat → Nat → Int → Int → Int × Int
  | 0, _, a, b => (a, b)
  | k + 1, j, a, b => endsJ p y k (j + 1) (incI (p.n (68 + 3 * j) == 4 && p.n (69 + 3 * j) == y) a) (incI (p.n (68 + 3 * j) == 5 && p.n (69 + 3 * j) == y) b)
def endsI (m : Mac) (y : Int) : Nat → Nat → Int → Int → Int × Int
  | 0, _, a, b => (a, b)
  | k + 1, i, a, b => endsI m y k (i + 1) (endsJ (m.procs.f i) y 8 0 a b).1 (endsJ (m.procs.f i) y 8 0 a b).2
def endsF (m : Mac) (y : Int) : Int × Int := endsI m y m.procs.n 0 0 0
def tup2 (q : Int × Int) : V := .tup [.int .i64 q.1, .int .i64 q.2]

theorem ends50_in (m : Mac) (y : Int) (hn : m.procs.n ≤ 140737488355328) (ki i : Nat) (hi : i + 1 + ki = m.procs.n)
    (hout : ∀ (a b : Int), GoToE Try.prog 50 (Eq (tup2 (endsI m y ki (i + 1) a b))) (headOf Try.f50 0) ⟨52, 1000, [(1, .int .i64 (y)), (6, .int .i64 a), (7, .int .i64 b), (13, prcs m.procs), (14, .int .i64 ((↑m.procs.n : Int))), (15, .int .i64 ((i + 1 : Nat) : Int))], []⟩) : ∀ (k j : Nat) (a b : Int), j + k = 8 →
    GoToE Try.prog 50 (Eq (tup2 (endsI m y ki (i + 1) (endsJ (m.procs.f i) y k j a b).1 (endsJ (m.procs.f i) y k j a b).2))) (headOf Try.f50 1) ⟨52, 1000, [(1, .int .i64 (y)), (6, .int .i64 a), (7, .int .i64 b), (13, prcs m.procs), (14, .int .i64 ((↑m.procs.n : Int))), (15, .int .i64 i), (20, .agg (m.procs.f i).fds), (21, .int .i64 j)], []⟩ := by
  intro k
  induction k with
  | zero =>
    intro j a b hj
    have hwi := wrap_succ (i := i) (n := m.procs.n) (by omega) hn
    apply w50_2 m y a b i j (m.procs.f i)
    case c_f => intro _; rw [hwi]; exact hout a b
    all_goals (intro h; simp only [decide_eq_true_eq] at h; omega)
  | succ k ih =>
    intro j a b hj
    have hw := wrap_succ (i := j) (n := 8) (by omega) (by omega)
    have hb : (0 : Int) ≤ j ∧ (j : Int) < ((8 : Nat) : Int) := by omega
    have hl : (j : Int).toNat * 3 + 3 ≤ (m.procs.f i).fds.length := by
      have : (m.procs.f i).fds.length = 24 := rfl
      rw [Int.toNat_natCast]; omega
    have hp : (V.agg ((m.procs.f i).fd (j : Int).toNat) : V) = .agg (List.take 3 (List.drop ((j : Int).toNat * 3) (m.procs.f i).fds)) := by simp only [Int.toNat_natCast]; rw [fd_ok _ (by omega)]
    apply w50_2 m y a b i j (m.procs.f i)
    case c_f => intro h; simp only [decide_eq_false_iff_not] at h; omega
    case c_ttt =>
      intro _ h1 h2
      rw [Int.toNat_natCast] at h1 h2
      have h5 : ((m.procs.f i).n (68 + 3 * j) == 5) = false := by simp only [beq_iff_eq] at h1; simp; omega
      have e1 : incI ((m.procs.f i).n (68 + 3 * j) == 4 && (m.procs.f i).n (69 + 3 * j) == y) a = IntKind.i64.wrap (a + 1) := by simp only [incI, h1, h2, h5, Bool.true_and, Bool.false_and, if_true, Bool.false_eq_true, if_false]
      have e2 : incI ((m.procs.f i).n (68 + 3 * j) == 5 && (m.procs.f i).n (69 + 3 * j) == y) b = b := by simp only [incI, h1, h2, h5, Bool.true_and, Bool.false_and, if_true, Bool.false_eq_true, if_false]
      refine ⟨hb, hl, hp, ?_⟩
      rw [hw]; simp only [endsJ, e1, e2]; exact ih (j + 1) _ _ (by omega)
    case c_ttft =>
      intro _ h1 h2 h5
      rw [Int.toNat_natCast] at h1 h2 h5
      simp only [beq_iff_eq] at h1 h5; omega
    case c_ttff =>
      intro _ h1 h2 h5
      rw [Int.toNat_natCast] at h1 h2 h5
      have e1 : incI ((m.procs.f i).n (68 + 3 * j) == 4 && (m.procs.f i).n (69 + 3 * j) == y) a = a := by simp only [incI, h1, h2, h5, Bool.true_and, Bool.false_and, if_true, Bool.false_eq_true, if_false]
      have e2 : incI ((m.procs.f i).n (68 + 3 * j) == 5 && (m.procs.f i).n (69 + 3 * j) == y) b = b := by simp only [incI, h1, h2, h5, Bool.true_and, Bool.false_and, if_true, Bool.false_eq_true, if_false]
      refine ⟨hb, hl, hp, ?_⟩
      rw [hw]; simp only [endsJ, e1, e2]; exact ih (j + 1) _ _ (by omega)
    case c_tftt =>
      intro _ h1 h5 h2
      rw [Int.toNat_natCast] at h1 h5 h2
      have e1 : incI ((m.procs.f i).n (68 + 3 * j) == 4 && (m.procs.f i).n (69 + 3 * j) == y) a = a := by simp only [incI, h1, h2, h5, Bool.true_and, Bool.false_and, if_true, Bool.false_eq_true, if_false]
      have e2 : incI ((m.procs.f i).n (68 + 3 * j) == 5 && (m.procs.f i).n (69 + 3 * j) == y) b = IntKind.i64.wrap (b + 1) := by simp only [incI, h1, h2, h5, Bool.true_and, Bool.false_and, if_true, Bool.false_eq_true, if_false]
      refine ⟨hb, hl, hp, ?_⟩
      rw [hw]; simp only [endsJ, e1, e2]; exact ih (j + 1) _ _ (by omega)
    case c_tftf =>
      intro _ h1 h5 h2
      rw [Int.toNat_natCast] at h1 h5 h2
      have e1 : incI ((m.procs.f i).n (68 + 3 * j) == 4 && (m.procs.f i).n (69 + 3 * j) == y) a = a := by simp only [incI, h1, h2, h5, Bool.true_and, Bool.false_and, if_true, Bool.false_eq_true, if_false]
      have e2 : incI ((m.procs.f i).n (68 + 3 * j) == 5 && (m.procs.f i).n (69 + 3 * j) == y) b = b := by simp only [incI, h1, h2, h5, Bool.true_and, Bool.false_and, if_true, Bool.false_eq_true, if_false]
      refine ⟨hb, hl, hp, ?_⟩
      rw [hw]; simp only [endsJ, e1, e2]; exact ih (j + 1) _ _ (by omega)
    case c_tff =>
      intro _ h1 h5
      rw [Int.toNat_natCast] at h1 h5
      have e1 : incI ((m.procs.f i).n (68 + 3 * j) == 4 && (m.procs.f i).n (69 + 3 * j) == y) a = a := by simp only [incI, h1, h5, Bool.true_and, Bool.false_and, if_true, Bool.false_eq_true, if_false]
      have e2 : incI ((m.procs.f i).n (68 + 3 * j) == 5 && (m.procs.f i).n (69 + 3 * j) == y) b = b := by simp only [incI, h1, h5, Bool.true_and, Bool.false_and, if_true, Bool.false_eq_true, if_false]
      refine ⟨hb, hl, hp, ?_⟩
      rw [hw]; simp only [endsJ, e1, e2]; exact ih (j + 1) _ _ (by omega)
theorem ends50_at (m : Mac) (y : Int) (hn : m.procs.n ≤ 140737488355328) : ∀ (ki i : Nat) (a b : Int), i + ki = m.procs.n →
    GoToE Try.prog 50 (Eq (tup2 (endsI m y ki i a b))) (headOf Try.f50 0) ⟨52, 1000, [(1, .int .i64 (y)), (6, .int .i64 a), (7, .int .i64 b), (13, prcs m.procs), (14, .int .i64 ((↑m.procs.n : Int))), (15, .int .i64 i)], []⟩ := by
  intro ki
  induction ki with
  | zero =>
    intro i a b hi
    apply w50_1 m y a b i
    case c_f => intro _; rfl
    all_goals (intro h; simp only [decide_eq_true_eq] at h; omega)
  | succ ki ih =>
    intro i a b hi
    apply w50_1 m y a b i
    case c_f => intro h; simp only [decide_eq_false_iff_not] at h; omega
    case c_t =>
      intro _
      refine ⟨by omega, ?_⟩
      exact ends50_in m y hn ki i (by omega) (fun a b => ih (i + 1) a b (by omega)) 8 0 a b (by omega)
theorem ends50_spec (m : Mac) (y : Int) (hn : m.procs.n ≤ 140737488355328) : SpecD Try.prog 50 [.agg m.e, .int .i64 y] (tup2 (endsF m y)) :=
  (specE_of (Try.func50) (by kernel_rfl) (by kernel_rfl) (by kernel_rfl) (w50_0 m y (ends50_at m y hn m.procs.n 0 0 0 (by omega)))).eq

end Go.Hb
/- Printed by wip/tools/Walk.lean out of wip/walks/U.lean: each stretch of code, with a continuation per path. -/
namespace Go.Hb
open Go.RowKit Go.Proofs
set_option maxRecDepth 100000
set_option linter.unusedVariables false
end Go.Hb

/-
  THE FUNCTIONS, PART OC: the frames that nobody has, as the own code and the document tell them; 'StateChecks' hands back true.
-/
namespace Go.Hb
open Go.RowKit Go.Proofs
set_option maxRecDepth 100000

/-- The own code's map: whose frame is met. -/
def Met (m : Mac) (l : List Int) (f : Int → Option Bool) : Prop := ∀ y, (f y).getD false = true ↔ y ∈ l
theorem Met.set {m : Mac} {l : List Int} {f : Int → Option Bool} (h : Met m l f) (y : Int) : Met m (l ++ [y]) (setM f y true) := fun z => by
  unfold setM
  by_cases hz : z = y
  · rw [if_pos hz]; simp [hz]
  · rw [if_neg hz, h z]; simp [hz]

end Go.Hb
