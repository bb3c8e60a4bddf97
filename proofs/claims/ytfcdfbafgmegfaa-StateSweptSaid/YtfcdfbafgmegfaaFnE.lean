/-
  THE FUNCTIONS, PART E: the document's disk; who lives, who uses a frame, which pipe.
-/
import Derived.Test.YtfcdfbafgmegfaaFnD
import Derived.Test.YtfcdfbafgmegfaaWkD
namespace Go.Hb
open Go.RowKit Go.Proofs

def dirtyK (m : Mac) (h : Nat) : Nat → Nat → Int
  | 0, _ => (ofF (volF m)).2
  | k + 1, i => if (m.dirty.f i).n < 0 ∨ (m.dirty.f i).n ≥ h ∨ (m.dirty.f i).s.size ≠ 128 ∨ (0 < i ∧ (m.dirty.f (i - 1)).n ≥ (m.dirty.f i).n) then 3 else dirtyK m h k (i + 1)
def diskF (m : Mac) : Int :=
  if drvF m.drive ≠ 0 then drvF m.drive else if (homeF m.drive).n = 0 then 3 else if m.dirty.n > 32 then 6 else dirtyK m (homeF m.drive).n m.dirty.n 0

theorem volK_n (l : Sq Num) : ∀ (k i : Nat) (v : Sq ByteArray), (volK l k i v).n = v.n
  | 0, _, _ => rfl
  | k + 1, i, v => by
    simp only [volK]
    rw [volK_n l k (i + 1)]
    split <;> rfl

theorem disk_at (m : Mac) (hd : m.dirty.n ≤ 140737488355328) (hb : m.drive.blocks.n ≤ 140737488355328) (hp : m.drive.pending.n ≤ 140737488355328) : ∀ (k i : Nat), i + k = m.dirty.n →
    GoToE Try.prog 98 (Eq (.int .i64 (dirtyK m (homeF m.drive).n k i))) (headOf Try.f98 0) ⟨70, 1000, [(1, .ptr 0 0), (4, .int .i64 ((↑(homeF m.drive).n : Int))), (24, nums m.dirty), (25, .int .i64 ((↑m.dirty.n : Int))), (26, .int .i64 i)], [(0, .cells 30 m.e)]⟩ := by
  have hv : (volF m).n ≤ 140737488355328 := by have := home_n m.drive; rw [volF, volK_n]; omega
  intro k
  induction k with
  | zero =>
    intro i hi
    apply w98_1 m 0 (ofF (volF m)).2 (homeF m.drive) (volF m) (ofF (volF m)).1 i
    case c_f => intro _; exact ⟨vol_spec m hd hb hp, of_spec _ hv, rfl⟩
    all_goals (intro h; simp only [decide_eq_true_eq] at h; omega)
  | succ k ih =>
    intro i hi
    have hw := wrap_succ (i := i) (n := m.dirty.n) (by omega) hd
    have hbd : (0 : Int) ≤ i ∧ (i : Int) < m.dirty.n := by omega
    have hpr : 0 < i → IntKind.i64.wrap ((i : Int) - 1) = ((i - 1 : Nat) : Int) := fun h => by rw [IntWalk.i64_in _ (by omega)]; omega
    apply w98_1 m 0 (ofF (volF m)).2 (homeF m.drive) (volF m) (ofF (volF m)).1 i
    case c_tt => intro _ h; simp only [Int.toNat_natCast, decide_eq_true_eq] at h; exact ⟨hbd, by simp only [dirtyK]; rw [if_pos (.inl h)]⟩
    case c_tft => intro _ _ h; simp only [Int.toNat_natCast, decide_eq_true_eq] at h; exact ⟨hbd, by simp only [dirtyK]; rw [if_pos (.inr (.inl h))]⟩
    case c_tfft => intro _ _ _ h; simp only [Int.toNat_natCast, bne_iff_ne] at h; exact ⟨hbd, by simp only [dirtyK]; rw [if_pos (.inr (.inr (.inl (by omega))))]⟩
    case c_tffftt =>
      intro _ _ _ _ h1 h2
      simp only [decide_eq_true_eq] at h1 h2
      have hp := hpr (by omega)
      rw [hp] at h2 ⊢
      simp only [Int.toNat_natCast] at h2
      exact ⟨hbd, by omega, by simp only [dirtyK]; rw [if_pos (.inr (.inr (.inr ⟨by omega, h2⟩)))]⟩
    case c_tffftf =>
      intro _ h3 h4 h5 h1 h2
      simp only [Int.toNat_natCast, decide_eq_true_eq, decide_eq_false_iff_not, bne_eq_false_iff_eq] at h1 h2 h3 h4 h5
      have hp := hpr (by omega)
      rw [hp] at h2 ⊢
      simp only [Int.toNat_natCast] at h2
      refine ⟨hbd, by omega, ?_⟩
      rw [hw]; simp only [dirtyK]
      rw [if_neg (by omega)]; exact ih (i + 1) (by omega)
    case c_tffff =>
      intro _ h3 h4 h5 h1
      simp only [Int.toNat_natCast, decide_eq_false_iff_not, bne_eq_false_iff_eq] at h1 h3 h4 h5
      refine ⟨hbd, ?_⟩
      rw [hw]; simp only [dirtyK]
      rw [if_neg (by omega)]; exact ih (i + 1) (by omega)
    case c_f => intro h; simp only [decide_eq_false_iff_not] at h; omega

theorem disk_spec (m : Mac) (hd : m.dirty.n ≤ 140737488355328) (hb : m.drive.blocks.n ≤ 140737488355328) (hp : m.drive.pending.n ≤ 140737488355328) : SpecD Try.prog 98 [.agg m.e] (.int .i64 (diskF m)) := by
  refine (specE_of (Try.func98) (by kernel_rfl) (by kernel_rfl) (by kernel_rfl) ?_).eq
  have h1 := drv_spec m.drive hb hp
  have h2 := home_spec m.drive hb hp
  apply w98_0 m (drvF m.drive) 0 (homeF m.drive) ⟨0, fun _ => ⟨#[]⟩⟩ geo0
  case c_t => intro h; simp only [bne_iff_ne] at h; exact ⟨h1, by unfold diskF; rw [if_pos h]⟩
  case c_ft => intro h h3; simp only [bne_eq_false_iff_eq, beq_iff_eq] at h h3; exact ⟨h1, h2, by unfold diskF; rw [if_neg (by omega), if_pos (by omega)]⟩
  case c_fft => intro h h3 h4; simp only [bne_eq_false_iff_eq, beq_eq_false_iff_ne, decide_eq_true_eq] at h h3 h4; exact ⟨h1, h2, by unfold diskF; rw [if_neg (by omega), if_neg (by omega), if_pos (by omega)]⟩
  case c_fff =>
    intro h h3 h4
    simp only [bne_eq_false_iff_eq, beq_eq_false_iff_ne, decide_eq_false_iff_not] at h h3 h4
    refine ⟨h1, h2, ?_⟩
    unfold diskF; rw [if_neg (by omega), if_neg (by omega), if_neg (by omega)]
    exact disk_at m hd hb hp m.dirty.n 0 (by omega)

/-- Does a process of that number live? -/
def livesK (m : Mac) (pid : Int) : Nat → Nat → Bool
  | 0, _ => false
  | k + 1, i => ((m.procs.f i).n 0 == pid && ((m.procs.f i).n 2 == 1 || (m.procs.f i).n 2 == 2)) || livesK m pid k (i + 1)
def livesF (m : Mac) (pid : Int) : Bool := livesK m pid m.procs.n 0

theorem lives_at (m : Mac) (pid : Int) (hn : m.procs.n ≤ 140737488355328) : ∀ (k i : Nat), i + k = m.procs.n →
    GoToE Try.prog 146 (fun r => Le r (.bool (livesK m pid k i))) (headOf Try.f146 0) ⟨29, 1000, [(1, .int .i64 (pid)), (8, prcs m.procs), (9, .int .i64 ((↑m.procs.n : Int))), (10, .int .i64 i)], []⟩ := by
  intro k
  induction k with
  | zero =>
    intro i hi
    apply w146_1 m pid i
    case c_f => intro _; exact Le.tt false
    all_goals (intro h; simp only [decide_eq_true_eq] at h; omega)
  | succ k ih =>
    intro i hi
    have hw := wrap_succ (i := i) (n := m.procs.n) (by omega) hn
    have hb : (0 : Int) ≤ i ∧ (i : Int) < m.procs.n := by omega
    apply w146_1 m pid i
    case c_ttt => intro _ h1 h2; simp only [Int.toNat_natCast] at h1 h2; exact ⟨hb, by simp only [livesK, h1, h2]; exact Le.tt true⟩
    case c_ttft => intro _ h1 h2 h3; simp only [Int.toNat_natCast] at h1 h2 h3; exact ⟨hb, by simp only [livesK, h1, h2, h3]; exact Le.tt true⟩
    case c_ttff => intro _ h1 h2 h3; simp only [Int.toNat_natCast] at h1 h2 h3; exact ⟨hb, by rw [hw]; simp only [livesK, h1, h2, h3]; exact ih (i + 1) (by omega)⟩
    case c_tf => intro _ h1; simp only [Int.toNat_natCast] at h1; exact ⟨hb, by rw [hw]; simp only [livesK, h1]; exact ih (i + 1) (by omega)⟩
    case c_f => intro h; simp only [decide_eq_false_iff_not] at h; omega

theorem lives_spec (m : Mac) (pid : Int) (hn : m.procs.n ≤ 140737488355328) : SpecD Try.prog 146 [.agg m.e, .int .i64 pid] (.bool (livesF m pid)) :=
  (specE_of (Try.func146) (by kernel_rfl) (by kernel_rfl) (by kernel_rfl) (w146_0 m pid (lives_at m pid hn m.procs.n 0 (by omega)))).le

/-- A pipe of a number. -/
def num0 : Num := ⟨0, ⟨#[]⟩⟩
def pipeK (l : Sq Num) (y : Int) : Nat → Nat → Num × Bool
  | 0, _ => (num0, false)
  | k + 1, i => if (l.f i).n = y then (l.f i, true) else pipeK l y k (i + 1)
def pipeF (m : Mac) (y : Int) : Num × Bool := pipeK m.pipes y m.pipes.n 0
theorem pipe_at (m : Mac) (y : Int) (hn : m.pipes.n ≤ 140737488355328) : ∀ (k i : Nat), i + k = m.pipes.n →
    GoToE Try.prog 49 (fun r => Le r (.tup [.agg (pipeK m.pipes y k i).1.e, .bool (pipeK m.pipes y k i).2])) (headOf Try.f49 0) ⟨22, 1000, [(1, .int .i64 (y)), (4, .ptr 0 0), (9, nums m.pipes), (10, .int .i64 ((↑m.pipes.n : Int))), (11, .int .i64 i)], [(0, .cells 59 num0.e)]⟩ := by
  intro k
  induction k with
  | zero =>
    intro i hi
    apply w49_1 m y i
    case c_f => intro _; exact .tup (.cons (.refl _) (.cons (Le.tt false) .nil))
    all_goals (intro h; simp only [decide_eq_true_eq] at h; omega)
  | succ k ih =>
    intro i hi
    have hw := wrap_succ (i := i) (n := m.pipes.n) (by omega) hn
    have hb : (0 : Int) ≤ i ∧ (i : Int) < m.pipes.n := by omega
    apply w49_1 m y i
    case c_tt => intro _ h; simp only [Int.toNat_natCast, beq_iff_eq] at h; exact ⟨hb, by simp only [pipeK]; rw [if_pos h]; exact .tup (.cons (.refl _) (.cons (Le.tt true) .nil))⟩
    case c_tf => intro _ h; simp only [Int.toNat_natCast, beq_eq_false_iff_ne] at h; exact ⟨hb, by rw [hw]; simp only [pipeK]; rw [if_neg h]; exact ih (i + 1) (by omega)⟩
    case c_f => intro h; simp only [decide_eq_false_iff_not] at h; omega
theorem pipe_spec (m : Mac) (y : Int) (hn : m.pipes.n ≤ 140737488355328) : SpecD Try.prog 49 [.agg m.e, .int .i64 y] (.tup [.agg (pipeF m y).1.e, .bool (pipeF m y).2]) :=
  (specE_of (Try.func49) (by kernel_rfl) (by kernel_rfl) (by kernel_rfl) (w49_0 m y (pipe_at m y hn m.pipes.n 0 (by omega)))).le
end Go.Hb
