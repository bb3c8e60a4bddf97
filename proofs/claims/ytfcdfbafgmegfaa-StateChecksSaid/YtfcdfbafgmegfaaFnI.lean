/-
  THE FUNCTIONS, PART I: whether two machines are the same; whether one is great.
-/
import Derived.Test.YtfcdfbafgmegfaaFnH
import Derived.Test.YtfcdfbafgmegfaaWkF
import Derived.Test.YtfcdfbafgmegfaaWkG
namespace Go.Hb
open Go.RowKit Go.Proofs

/-- Great: nought or one. -/
def NoughtOne (r : V) : Prop := r = .int .i64 0 ∨ r = .int .i64 1
theorem great_at5 (m : Mac) (ok : MacOk m) : ∀ (k i : Nat), i + k = m.pipes.n →
    GoToE Try.prog 43 NoughtOne (headOf Try.f43 4) ⟨113, 1000, [(102, nums m.pipes), (103, .int .i64 ((↑m.pipes.n : Int))), (104, .int .i64 i)], []⟩ := by
  intro k
  induction k with
  | zero =>
    intro i hi
    apply w43_5 m i
    case c_f => intro _; exact .inl rfl
    all_goals (intro h; simp only [decide_eq_true_eq] at h; omega)
  | succ k ih =>
    intro i hi
    have hw := wrap_succ (i := i) (n := m.pipes.n) (by omega) ok.pipes
    have hbd : (0 : Int) ≤ i ∧ (i : Int) < m.pipes.n := by omega
    apply w43_5 m i
    case c_tt => intro _ _; exact ⟨hbd, .inr rfl⟩
    case c_tf => intro _ _; refine ⟨hbd, ?_⟩; rw [hw]; exact ih (i + 1) (by omega)
    case c_f => intro h; simp only [decide_eq_false_iff_not] at h; omega
theorem wrap01 : IntKind.i64.wrap ((0 : Int) + (1 : Int)) = 1 := rfl
theorem wrap11 : IntKind.i64.wrap ((1 : Int) + (1 : Int)) = 2 := rfl
theorem great_at4d (m : Mac) (ok : MacOk m) : ∀ (k i : Nat), i + k = m.drive.pending.n →
    GoToE Try.prog 43 NoughtOne (headOf Try.f43 3) ⟨113, 1000, [(1, .ptr 0 0), (83, .row 1 0 2 2), (84, .int .i64 ((↑(2 : Nat) : Int))), (85, .int .i64 ((1 : Int))), (89, nums m.drive.pending), (90, .int .i64 ((↑m.drive.pending.n : Int))), (91, .int .i64 i)], [(0, .cells 30 m.e), (1, .cells 26 [nums m.dirty, nums m.drive.pending])]⟩ := by
  intro k
  induction k with
  | zero =>
    intro i hi
    apply w43d_4 m i
    case c_f => intro _; rw [wrap11]; exact w43_3 m (great_at5 m ok m.pipes.n 0 (by omega))
    all_goals (intro h; simp only [decide_eq_true_eq] at h; omega)
  | succ k ih =>
    intro i hi
    have hw := wrap_succ (i := i) (n := m.drive.pending.n) (by omega) ok.pendings
    have hbd : (0 : Int) ≤ i ∧ (i : Int) < m.drive.pending.n := by omega
    apply w43d_4 m i
    case c_tt => intro _ _; exact ⟨hbd, .inr rfl⟩
    case c_tf => intro _ _; refine ⟨hbd, ?_⟩; rw [hw]; exact ih (i + 1) (by omega)
    case c_f => intro h; simp only [decide_eq_false_iff_not] at h; omega
theorem great_at4c (m : Mac) (ok : MacOk m) : ∀ (k i : Nat), i + k = m.dirty.n →
    GoToE Try.prog 43 NoughtOne (headOf Try.f43 3) ⟨113, 1000, [(1, .ptr 0 0), (83, .row 1 0 2 2), (84, .int .i64 ((↑(2 : Nat) : Int))), (85, .int .i64 ((0 : Int))), (89, nums m.dirty), (90, .int .i64 ((↑m.dirty.n : Int))), (91, .int .i64 i)], [(0, .cells 30 m.e), (1, .cells 26 [nums m.dirty, nums m.drive.pending])]⟩ := by
  intro k
  induction k with
  | zero =>
    intro i hi
    apply w43c_4 m i
    case c_f => intro _; rw [wrap01]; exact w43d_3 m ⟨by omega, great_at4d m ok m.drive.pending.n 0 (by omega)⟩
    all_goals (intro h; simp only [decide_eq_true_eq] at h; omega)
  | succ k ih =>
    intro i hi
    have hw := wrap_succ (i := i) (n := m.dirty.n) (by omega) ok.dirtys
    have hbd : (0 : Int) ≤ i ∧ (i : Int) < m.dirty.n := by omega
    apply w43c_4 m i
    case c_tt => intro _ _; exact ⟨hbd, .inr rfl⟩
    case c_tf => intro _ _; refine ⟨hbd, ?_⟩; rw [hw]; exact ih (i + 1) (by omega)
    case c_f => intro h; simp only [decide_eq_false_iff_not] at h; omega
theorem great_at2b (m : Mac) (ok : MacOk m) : ∀ (k i : Nat), i + k = m.drive.blocks.n →
    GoToE Try.prog 43 NoughtOne (headOf Try.f43 1) ⟨113, 1000, [(1, .ptr 0 0), (61, .row 1 0 2 2), (62, .int .i64 ((↑(2 : Nat) : Int))), (63, .int .i64 ((1 : Int))), (67, strs m.drive.blocks), (68, .int .i64 ((↑m.drive.blocks.n : Int))), (69, .int .i64 i)], [(0, .cells 30 m.e), (1, .cells 23 [strs m.frames, strs m.drive.blocks])]⟩ := by
  intro k
  induction k with
  | zero =>
    intro i hi
    apply w43b_2 m i
    case c_f => intro _; rw [wrap11]; exact w43_1 m (w43c_3 m ⟨by omega, great_at4c m ok m.dirty.n 0 (by omega)⟩)
    all_goals (intro h; simp only [decide_eq_true_eq] at h; omega)
  | succ k ih =>
    intro i hi
    have hw := wrap_succ (i := i) (n := m.drive.blocks.n) (by omega) ok.blocks
    have hbd : (0 : Int) ≤ i ∧ (i : Int) < m.drive.blocks.n := by omega
    apply w43b_2 m i
    case c_tt => intro _ _; exact ⟨hbd, .inr rfl⟩
    case c_tf => intro _ _; refine ⟨hbd, ?_⟩; rw [hw]; exact ih (i + 1) (by omega)
    case c_f => intro h; simp only [decide_eq_false_iff_not] at h; omega
theorem great_at2a (m : Mac) (ok : MacOk m) : ∀ (k i : Nat), i + k = m.frames.n →
    GoToE Try.prog 43 NoughtOne (headOf Try.f43 1) ⟨113, 1000, [(1, .ptr 0 0), (61, .row 1 0 2 2), (62, .int .i64 ((↑(2 : Nat) : Int))), (63, .int .i64 ((0 : Int))), (67, strs m.frames), (68, .int .i64 ((↑m.frames.n : Int))), (69, .int .i64 i)], [(0, .cells 30 m.e), (1, .cells 23 [strs m.frames, strs m.drive.blocks])]⟩ := by
  intro k
  induction k with
  | zero =>
    intro i hi
    apply w43a_2 m i
    case c_f => intro _; rw [wrap01]; exact w43b_1 m ⟨by omega, great_at2b m ok m.drive.blocks.n 0 (by omega)⟩
    all_goals (intro h; simp only [decide_eq_true_eq] at h; omega)
  | succ k ih =>
    intro i hi
    have hw := wrap_succ (i := i) (n := m.frames.n) (by omega) ok.frames
    have hbd : (0 : Int) ≤ i ∧ (i : Int) < m.frames.n := by omega
    apply w43a_2 m i
    case c_tt => intro _ _; exact ⟨hbd, .inr rfl⟩
    case c_tf => intro _ _; refine ⟨hbd, ?_⟩; rw [hw]; exact ih (i + 1) (by omega)
    case c_f => intro h; simp only [decide_eq_false_iff_not] at h; omega
theorem great_spec (m : Mac) (ok : MacOk m) : ∃ g : Int, (g = 0 ∨ g = 1) ∧ SpecD Try.prog 43 [.agg m.e] (.int .i64 g) := by
  have h : SpecE Try.prog 43 [.agg m.e] NoughtOne := by
    refine specE_of (Try.func43) (by kernel_rfl) (by kernel_rfl) (by kernel_rfl) ?_
    apply w43_0 m
    case c_t => intro _; exact ⟨by omega, .inr rfl⟩
    case c_ft => intro _ _; exact ⟨by omega, .inr rfl⟩
    case c_ff => intro _ _; exact ⟨by omega, w43a_1 m ⟨by omega, great_at2a m ok m.frames.n 0 (by omega)⟩⟩
  obtain ⟨r, hr | hr, h⟩ := h
  · subst hr; exact ⟨0, .inl rfl, h⟩
  · subst hr; exact ⟨1, .inr rfl, h⟩
end Go.Hb
