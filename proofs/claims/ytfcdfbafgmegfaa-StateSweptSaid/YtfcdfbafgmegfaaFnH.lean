/-
  THE FUNCTIONS, PART H: the document's Check of a machine.
-/
import Derived.Test.YtfcdfbafgmegfaaFnG
import Derived.Test.YtfcdfbafgmegfaaWkE
import Derived.Test.YtfcdfbafgmegfaaDtB
namespace Go.Hb
open Go.RowKit Go.Proofs

def chkEnd (m : Mac) : Int := if m.inn.size > 65536 ∨ m.init.size > 128 then 6 else diskF m
def chkPipes (m : Mac) : Nat → Nat → Int
  | 0, _ => chkEnd m
  | k + 1, i => if (m.pipes.f i).n < 1 ∨ (m.pipes.f i).n ≥ m.newpipe ∨ (0 < i ∧ (m.pipes.f (i - 1)).n ≥ (m.pipes.f i).n) ∨ (m.pipes.f i).s.size > 64 then 3 else chkPipes m k (i + 1)
def chkProcs (m : Mac) : Nat → Nat → Int
  | 0, _ => if m.pipes.n > 64 then 6 else chkPipes m m.pipes.n 0
  | k + 1, i => if (0 < i ∧ (m.procs.f (i - 1)).n 0 ≥ (m.procs.f i).n 0) ∨ procF m (m.procs.f i) = false then 3 else chkProcs m k (i + 1)
def chkFrames (m : Mac) : Nat → Nat → Int
  | 0, _ => if m.procs.n > 8 then 6 else chkProcs m m.procs.n 0
  | k + 1, i => if (m.frames.f i).size ≠ 128 then 3 else chkFrames m k (i + 1)
def checkF (m : Mac) : Int :=
  if m.quantum < 1 ∨ m.quantum > 1000 ∨ m.left < 0 ∨ m.left > m.quantum ∨ m.cur < 0 ∨ m.next < 1 ∨ m.next > 1000000000 ∨ m.newpipe < 1 ∨ m.newpipe > 1000000000 then 2
  else if m.frames.n < 1 ∨ m.frames.n > 64 then 6 else chkFrames m m.frames.n 0

theorem pred_cast {i n : Nat} (hn : n ≤ 140737488355328) (hi : i < n) (h : 0 < i) : IntKind.i64.wrap ((i : Int) - 1) = ((i - 1 : Nat) : Int) := by
  rw [IntWalk.i64_in _ (by omega)]; omega

theorem check_at3 (m : Mac) (ok : MacOk m) : ∀ (k i : Nat), i + k = m.pipes.n →
    GoToE Try.prog 47 (Eq (.int .i64 (chkPipes m k i))) (headOf Try.f47 2) ⟨168, 1000, [(1, .ptr 0 0), (116, nums m.pipes), (117, .int .i64 ((↑m.pipes.n : Int))), (118, .int .i64 i)], [(0, .cells 30 m.e)]⟩ := by
  have hn := ok.pipes
  intro k
  induction k with
  | zero =>
    intro i hi
    apply w47_3 m (diskF m) i
    case c_ft => intro _ h; simp only [decide_eq_true_eq] at h; simp only [chkPipes, chkEnd]; rw [if_pos (by omega)]
    case c_fft => intro _ h h2; simp only [decide_eq_true_eq, decide_eq_false_iff_not] at h h2; simp only [chkPipes, chkEnd]; rw [if_pos (by omega)]
    case c_fff => intro _ h h2; simp only [decide_eq_false_iff_not] at h h2; refine ⟨disk_spec m ok.dirtys ok.blocks ok.pendings, ?_⟩; simp only [chkPipes, chkEnd]; rw [if_neg (by omega)]
    all_goals (intro h; simp only [decide_eq_true_eq] at h; omega)
  | succ k ih =>
    intro i hi
    have hw := wrap_succ (i := i) (n := m.pipes.n) (by omega) hn
    have hbd : (0 : Int) ≤ i ∧ (i : Int) < m.pipes.n := by omega
    have hpr := pred_cast (i := i) hn (by omega)
    apply w47_3 m (diskF m) i
    case c_tt => intro _ h; simp only [Int.toNat_natCast, decide_eq_true_eq] at h; exact ⟨hbd, by simp only [chkPipes]; rw [if_pos (by omega)]⟩
    case c_tft => intro _ _ h; simp only [Int.toNat_natCast, decide_eq_true_eq] at h; exact ⟨hbd, by simp only [chkPipes]; rw [if_pos (by omega)]⟩
    case c_tfftt =>
      intro _ _ _ h1 h
      simp only [decide_eq_true_eq] at h1 h
      have h0 : 0 < i := by omega
      rw [hpr h0] at h ⊢
      simp only [Int.toNat_natCast] at h
      exact ⟨hbd, by omega, by simp only [chkPipes]; rw [if_pos (by omega)]⟩
    case c_tfftft =>
      intro _ _ _ h1 _ h
      simp only [decide_eq_true_eq] at h1 h
      have h0 : 0 < i := by omega
      rw [hpr h0]
      simp only [Int.toNat_natCast] at h
      exact ⟨hbd, by omega, by simp only [chkPipes]; rw [if_pos (by omega)]⟩
    case c_tfftff =>
      intro _ h2 h3 h1 h4 h
      simp only [decide_eq_true_eq, decide_eq_false_iff_not] at h1 h2 h3 h4 h
      have h0 : 0 < i := by omega
      rw [hpr h0] at h4 ⊢
      simp only [Int.toNat_natCast] at h2 h3 h4 h
      refine ⟨hbd, by omega, ?_⟩
      rw [hw]; simp only [chkPipes]; rw [if_neg (by omega)]; exact ih (i + 1) (by omega)
    case c_tffft => intro _ _ _ _ h; simp only [Int.toNat_natCast, decide_eq_true_eq] at h; exact ⟨hbd, by simp only [chkPipes]; rw [if_pos (by omega)]⟩
    case c_tffff =>
      intro _ h2 h3 h1 h
      simp only [Int.toNat_natCast, decide_eq_false_iff_not] at h1 h2 h3 h
      refine ⟨hbd, ?_⟩
      rw [hw]; simp only [chkPipes]; rw [if_neg (by omega)]; exact ih (i + 1) (by omega)
    all_goals (intro h; simp only [decide_eq_false_iff_not] at h; omega)

theorem check_at2 (m : Mac) (ok : MacOk m) : ∀ (k i : Nat), i + k = m.procs.n →
    GoToE Try.prog 47 (Eq (.int .i64 (chkProcs m k i))) (headOf Try.f47 1) ⟨168, 1000, [(1, .ptr 0 0), (83, prcs m.procs), (84, .int .i64 ((↑m.procs.n : Int))), (85, .int .i64 i)], [(0, .cells 30 m.e)]⟩ := by
  have hn := ok.procs
  intro k
  induction k with
  | zero =>
    intro i hi
    apply w47_2 m 0 i false
    case c_ft => intro _ h; simp only [decide_eq_true_eq] at h; simp only [chkProcs]; rw [if_pos (by omega)]
    case c_ff => intro _ h; simp only [decide_eq_false_iff_not] at h; simp only [chkProcs]; rw [if_neg (by omega)]; exact check_at3 m ok m.pipes.n 0 (by omega)
    all_goals (intro h; simp only [decide_eq_true_eq] at h; omega)
  | succ k ih =>
    intro i hi
    have hw := wrap_succ (i := i) (n := m.procs.n) (by omega) hn
    have hbd : (0 : Int) ≤ i ∧ (i : Int) < m.procs.n := by omega
    have hpr := pred_cast (i := i) hn (by omega)
    have hsp := proc_spec m (m.procs.f i) ok.procs ok.pipes
    apply w47_2 m 0 i (procF m (m.procs.f i))
    case c_ttt =>
      intro _ h1 h
      simp only [decide_eq_true_eq] at h1 h
      have h0 : 0 < i := by omega
      rw [hpr h0] at h ⊢
      simp only [Int.toNat_natCast] at h
      exact ⟨hbd, by omega, by simp only [chkProcs]; rw [if_pos (.inl ⟨h0, h⟩)]⟩
    case c_ttft =>
      intro _ h1 _ h
      simp only [decide_eq_true_eq, Bool.not_eq_true'] at h1 h
      have h0 : 0 < i := by omega
      rw [hpr h0]
      exact ⟨hbd, by omega, hsp, by simp only [chkProcs]; rw [if_pos (.inr h)]⟩
    case c_ttff =>
      intro _ h1 h2 h
      simp only [decide_eq_true_eq, decide_eq_false_iff_not, Bool.not_eq_false'] at h1 h2 h
      have h0 : 0 < i := by omega
      rw [hpr h0] at h2 ⊢
      simp only [Int.toNat_natCast] at h2
      refine ⟨hbd, by omega, hsp, ?_⟩
      rw [hw]; simp only [chkProcs, h]; rw [if_neg (by simp; omega)]; exact ih (i + 1) (by omega)
    case c_tft =>
      intro _ h1 h
      simp only [Bool.not_eq_true'] at h
      exact ⟨hbd, hsp, by simp only [chkProcs]; rw [if_pos (.inr h)]⟩
    case c_tff =>
      intro _ h1 h
      simp only [decide_eq_false_iff_not, Bool.not_eq_false'] at h1 h
      refine ⟨hbd, hsp, ?_⟩
      rw [hw]; simp only [chkProcs, h]; rw [if_neg (by simp; omega)]; exact ih (i + 1) (by omega)
    all_goals (intro h; simp only [decide_eq_false_iff_not] at h; omega)

theorem check_at1 (m : Mac) (ok : MacOk m) : ∀ (k i : Nat), i + k = m.frames.n →
    GoToE Try.prog 47 (Eq (.int .i64 (chkFrames m k i))) (headOf Try.f47 0) ⟨168, 1000, [(1, .ptr 0 0), (68, strs m.frames), (69, .int .i64 ((↑m.frames.n : Int))), (70, .int .i64 i)], [(0, .cells 30 m.e)]⟩ := by
  have hn := ok.frames
  intro k
  induction k with
  | zero =>
    intro i hi
    apply w47_1 m 0 i
    case c_ft => intro _ h; simp only [decide_eq_true_eq] at h; simp only [chkFrames]; rw [if_pos (by omega)]
    case c_ff => intro _ h; simp only [decide_eq_false_iff_not] at h; simp only [chkFrames]; rw [if_neg (by omega)]; exact check_at2 m ok m.procs.n 0 (by omega)
    all_goals (intro h; simp only [decide_eq_true_eq] at h; omega)
  | succ k ih =>
    intro i hi
    have hw := wrap_succ (i := i) (n := m.frames.n) (by omega) hn
    have hbd : (0 : Int) ≤ i ∧ (i : Int) < m.frames.n := by omega
    apply w47_1 m 0 i
    case c_tt => intro _ h; simp only [Int.toNat_natCast, bne_iff_ne] at h; exact ⟨hbd, by simp only [chkFrames]; rw [if_pos (by omega)]⟩
    case c_tf => intro _ h; simp only [Int.toNat_natCast, bne_eq_false_iff_eq] at h; refine ⟨hbd, ?_⟩; rw [hw]; simp only [chkFrames]; rw [if_neg (by omega)]; exact ih (i + 1) (by omega)
    all_goals (intro h; simp only [decide_eq_false_iff_not] at h; omega)

theorem check_spec (m : Mac) (ok : MacOk m) : SpecD Try.prog 47 [.agg m.e] (.int .i64 (checkF m)) := by
  refine (specE_of (Try.func47) (by kernel_rfl) (by kernel_rfl) (by kernel_rfl) ?_).eq
  apply w47_0 m 0
  case c_fffffffffff =>
    intros
    simp only [decide_eq_false_iff_not] at *
    unfold checkF
    rw [if_neg (by omega), if_neg (by omega)]
    exact check_at1 m ok m.frames.n 0 (by omega)
  all_goals
    intros
    simp only [decide_eq_false_iff_not, decide_eq_true_eq] at *
    unfold checkF
    first
      | rw [if_pos (by omega)]
      | rw [if_neg (by omega), if_pos (by omega)]

/-- What a machine that may be is, as far as its processes' numbers go. -/
theorem chkProcs_ok (m : Mac) : ∀ (k i : Nat), chkProcs m k i = 0 → ∀ j, i ≤ j → j < i + k → procF m (m.procs.f j) = true ∧ (0 < j → (m.procs.f (j - 1)).n 0 < (m.procs.f j).n 0) := by
  intro k
  induction k with
  | zero => intro i _ j h1 h2; omega
  | succ k ih =>
    intro i h j h1 h2
    simp only [chkProcs] at h
    split at h
    · cases h
    · rename_i hc
      by_cases hj : j = i
      · subst hj
        have h3 : procF m (m.procs.f j) = true := by
          cases hp : procF m (m.procs.f j) with
          | true => rfl
          | false => exact absurd (.inr hp) hc
        refine ⟨h3, fun h0 => ?_⟩
        have : ¬ ((m.procs.f (j - 1)).n 0 ≥ (m.procs.f j).n 0) := fun h4 => hc (.inl ⟨h0, h4⟩)
        omega
      · exact ih (i + 1) h j (by omega) (by omega)
theorem chkFrames_ok (m : Mac) : ∀ (k i : Nat), chkFrames m k i = 0 → m.procs.n ≤ 8 ∧ chkProcs m m.procs.n 0 = 0 ∧ ∀ j, i ≤ j → j < i + k → (m.frames.f j).size = 128 := by
  intro k
  induction k with
  | zero =>
    intro i h
    simp only [chkFrames] at h
    split at h
    · cases h
    · exact ⟨by omega, h, fun j h1 h2 => by omega⟩
  | succ k ih =>
    intro i h
    simp only [chkFrames] at h
    split at h
    · cases h
    · rename_i hc
      obtain ⟨h1, h2, h3⟩ := ih (i + 1) h
      refine ⟨h1, h2, fun j h4 h5 => ?_⟩
      by_cases hj : j = i
      · subst hj; omega
      · exact h3 j (by omega) (by omega)
structure Fine (m : Mac) : Prop where
  quantum : 1 ≤ m.quantum ∧ m.quantum ≤ 1000
  left : 0 ≤ m.left ∧ m.left ≤ m.quantum
  cur : 0 ≤ m.cur
  next : 1 ≤ m.next ∧ m.next ≤ 1000000000
  newpipe : 1 ≤ m.newpipe ∧ m.newpipe ≤ 1000000000
  frames : 1 ≤ m.frames.n ∧ m.frames.n ≤ 64
  frame : ∀ i, i < m.frames.n → (m.frames.f i).size = 128
  procs : m.procs.n ≤ 8
  proc : ∀ i, i < m.procs.n → procF m (m.procs.f i) = true
  rising : ∀ i, 0 < i → i < m.procs.n → (m.procs.f (i - 1)).n 0 < (m.procs.f i).n 0
theorem fine_of {m : Mac} (h : checkF m = 0) : Fine m := by
  unfold checkF at h
  split at h
  · cases h
  · rename_i h1
    split at h
    · cases h
    · rename_i h2
      obtain ⟨h3, h4, h5⟩ := chkFrames_ok m _ 0 h
      have h6 := chkProcs_ok m _ 0 h4
      exact ⟨by omega, by omega, by omega, by omega, by omega, by omega, fun i hi => h5 i (by omega) (by omega), h3, fun i hi => (h6 i (by omega) (by omega)).1, fun i h0 hi => (h6 i (by omega) (by omega)).2 h0⟩
end Go.Hb
