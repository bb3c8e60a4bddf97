/-
  THE FUNCTIONS, PART I: whether two machines are the same; whether one is great.
-/
import Derived.Test.YtfcdfbafgmegfaaFnH
import Derived.Test.YtfcdfbafgmegfaaWkF
import Derived.Test.YtfcdfbafgmegfaaWkG
namespace Go.Hb
open Go.RowKit Go.Proofs

theorem eqSelf {P : Program} : ∀ (d : Nat), (∀ t s b, eqV P d t s s = some b → b = true) ∧ (∀ fs l b, eqFs P d fs l l = some b → b = true) ∧ (∀ e sz n i l b, eqIs P d e sz n i l l = some b → b = true)
  | 0 => ⟨fun t s b h => by simp [eqV] at h, fun fs l b h => by simp [eqFs] at h, fun e sz n i l b h => by simp [eqIs] at h⟩
  | d + 1 => by
    obtain ⟨ih1, ih2, ih3⟩ := eqSelf (P := P) d
    refine ⟨fun t s b h => ?_, fun fs l b h => ?_, fun e sz n i l b h => ?_⟩
    · unfold eqV at h
      split at h
      · cases s with
        | int k x =>
          have h : (match kEq k k with | true => some (x == x) | false => none) = some b := h
          split at h
          · simp at h; exact h
          · cases h
        | _ => simp at h
      · split at h
        · rename_i hs hr
          cases hs.symm.trans hr
          simp at h; exact h
        · cases h
      · cases s with
        | str x => have h : some (strEq x x) = some b := h; simp [strEq_self] at h; exact h
        | _ => simp at h
      · cases s with
        | agg l =>
          have h : (match P.stoodInHeld t with | false => eqFs P d (P.fieldsOf t).toList l l | true => none) = some b := by
            cases hh : P.stoodInHeld t with
            | false => simpa [hh] using h
            | true => simp [hh] at h
          split at h
          · exact ih2 _ _ _ h
          · cases h
        | _ => simp at h
      · cases s with
        | agg l =>
          rename_i n e _
          cases hh : P.info? e with
          | some q => exact ih3 e (P.cellsOf e) n 0 l b (by simpa [hh] using h)
          | none => simp [hh] at h
        | _ => simp at h
      · cases h
    · cases fs with
      | nil => simp [eqFs] at h; exact h
      | cons f fs =>
        unfold eqFs at h
        split at h
        · rename_i hs hr
          cases hs.symm.trans hr
          split at h
          · rename_i ha hb
            cases ih1 _ _ _ ha
            cases ih2 _ _ _ hb
            simp at h; exact h
          · cases h
        · cases h
    · cases n with
      | zero => simp [eqIs] at h; exact h
      | succ n =>
        unfold eqIs at h
        split at h
        · rename_i hs hr
          cases hs.symm.trans hr
          split at h
          · rename_i ha hb
            cases ih1 _ _ _ ha
            cases ih3 _ _ _ _ _ _ hb
            simp at h; exact h
          · cases h
        · cases h
theorem eqRun_self {P : Program} {t : TypeId} {l : List V} (hg : P.eqGuardType P.depth t = false) (h : (eqV P 1000 t (.agg l) (.agg l)).isSome = true) : EqRun P t l l true := by
  obtain ⟨b, hb⟩ := Option.isSome_iff_exists.1 h
  cases (eqSelf 1000).1 _ _ _ hb
  exact eqRun_of hg hb
theorem prc_self (p : Prc) : EqRun Try.prog 47 p.e p.e true := eqRun_self (by kernel_rfl) (by kernel_rfl)
theorem write_self (p : Num) : EqRun Try.prog 80 p.e p.e true := eqRun_self (by kernel_rfl) (by kernel_rfl)

/-- Of a size that Go can have. -/
structure MacSm (m : Mac) : Prop where
  frames : m.frames.n ≤ 140737488355328
  procs : m.procs.n ≤ 140737488355328
  pipes : m.pipes.n ≤ 140737488355328
  dirtys : m.dirty.n ≤ 140737488355328
theorem MacOk.sm {m : Mac} (ok : MacOk m) : MacSm m := ⟨ok.frames, ok.procs, ok.pipes, ok.dirtys⟩

theorem alike_at2 (m : Mac) (ok : MacSm m) : ∀ (k i : Nat), i + k = m.dirty.n →
    GoToE Try.prog 57 (Eq (.int .i64 1)) (headOf Try.f57 1) ⟨176, 1000, [(2, .ptr 0 0), (3, .ptr 1 0), (160, .int .i64 ((↑m.dirty.n : Int))), (161, .int .i64 i)], [(0, .cells 30 m.e), (1, .cells 30 m.e)]⟩ := by
  intro k
  induction k with
  | zero =>
    intro i hi
    apply w57_2 m true true i true
    case c_f => intro _; rfl
    all_goals (intro h; simp only [decide_eq_true_eq] at h; omega)
  | succ k ih =>
    intro i hi
    have hw := wrap_succ (i := i) (n := m.dirty.n) (by omega) ok.dirtys
    have hbd : (0 : Int) ≤ i ∧ (i : Int) < m.dirty.n := by omega
    apply w57_2 m true true i true
    case c_tt => intro _ h; cases h
    case c_tf => intro _ _; refine ⟨hbd, hbd, write_self _, ?_⟩; rw [hw]; exact ih (i + 1) (by omega)
    case c_f => intro h; simp only [decide_eq_false_iff_not] at h; omega
theorem alike_at1 (m : Mac) (ok : MacSm m) : ∀ (k i : Nat), i + k = m.procs.n →
    GoToE Try.prog 57 (Eq (.int .i64 1)) (headOf Try.f57 0) ⟨176, 1000, [(2, .ptr 0 0), (3, .ptr 1 0), (142, .int .i64 ((↑m.procs.n : Int))), (143, .int .i64 i)], [(0, .cells 30 m.e), (1, .cells 30 m.e)]⟩ := by
  intro k
  induction k with
  | zero =>
    intro i hi
    apply w57_1 m true true i true
    case c_f => intro _; exact alike_at2 m ok m.dirty.n 0 (by omega)
    all_goals (intro h; simp only [decide_eq_true_eq] at h; omega)
  | succ k ih =>
    intro i hi
    have hw := wrap_succ (i := i) (n := m.procs.n) (by omega) ok.procs
    have hbd : (0 : Int) ≤ i ∧ (i : Int) < m.procs.n := by omega
    apply w57_1 m true true i true
    case c_tt => intro _ h; cases h
    case c_tf => intro _ _; refine ⟨hbd, hbd, prc_self _, ?_⟩; rw [hw]; exact ih (i + 1) (by omega)
    case c_f => intro h; simp only [decide_eq_false_iff_not] at h; omega
/-- A machine is the same as itself. -/
theorem alike_spec (m : Mac) (ok : MacSm m) : SpecD Try.prog 57 [.agg m.e, .agg m.e] (.int .i64 1) := by
  refine (specE_of (Try.func57) (by kernel_rfl) (by kernel_rfl) (by kernel_rfl) ?_).eq
  have h1 := same_spec m.frames m.frames ok.frames
  have h2 := pipes_spec m.pipes m.pipes ok.pipes
  rw [sameF_self] at h1
  rw [pipesF_self] at h2
  apply w57_0 m true true
  case c_fffffffffffffffff => intros; exact ⟨h1, h2, alike_at1 m ok m.procs.n 0 (by omega)⟩
  all_goals (intros; simp_all [strEq_self])
/-- Great: nought or one. -/
def NoughtOne (r : V) : Prop := r = .int .i64 0 ∨ r = .int .i64 1
theorem great_at5 (m : Mac) (ok : MacOk m) : ∀ (k i : Nat), i + k = m.pipes.n →
    GoToE Try.prog 43 NoughtOne (headOf Try.f43 4) ⟨113, 1000, [(102, nums m.pipes), (103, .int .i64 ((↑m.pipes.n : Int))), (104, .int .i64 i)], []⟩ := by
  intro k
  induction k with
  | zero =>
    intro i hi
    apply w43_5 m i
    case c_f => intro _; exact .inl rfl
    all_goals (intro h; simp only [decide_eq_true_eq] at h; omega)
  | succ k ih =>
    intro i hi
    have hw := wrap_succ (i := i) (n := m.pipes.n) (by omega) ok.pipes
    have hbd : (0 : Int) ≤ i ∧ (i : Int) < m.pipes.n := by omega
    apply w43_5 m i
    case c_tt => intro _ _; exact ⟨hbd, .inr rfl⟩
    case c_tf => intro _ _; refine ⟨hbd, ?_⟩; rw [hw]; exact ih (i + 1) (by omega)
    case c_f => intro h; simp only [decide_eq_false_iff_not] at h; omega
theorem wrap01 : IntKind.i64.wrap ((0 : Int) + (1 : Int)) = 1 := rfl
theorem wrap11 : IntKind.i64.wrap ((1 : Int) + (1 : Int)) = 2 := rfl
theorem great_at4d (m : Mac) (ok : MacOk m) : ∀ (k i : Nat), i + k = m.drive.pending.n →
    GoToE Try.prog 43 NoughtOne (headOf Try.f43 3) ⟨113, 1000, [(1, .ptr 0 0), (83, .row 1 0 2 2), (84, .int .i64 ((↑(2 : Nat) : Int))), (85, .int .i64 ((1 : Int))), (89, nums m.drive.pending), (90, .int .i64 ((↑m.drive.pending.n : Int))), (91, .int .i64 i)], [(0, .cells 30 m.e), (1, .cells 26 [nums m.dirty, nums m.drive.pending])]⟩ := by
  intro k
  induction k with
  | zero =>
    intro i hi
    apply w43d_4 m i
    case c_f => intro _; rw [wrap11]; exact w43_3 m (great_at5 m ok m.pipes.n 0 (by omega))
    all_goals (intro h; simp only [decide_eq_true_eq] at h; omega)
  | succ k ih =>
    intro i hi
    have hw := wrap_succ (i := i) (n := m.drive.pending.n) (by omega) ok.pendings
    have hbd : (0 : Int) ≤ i ∧ (i : Int) < m.drive.pending.n := by omega
    apply w43d_4 m i
    case c_tt => intro _ _; exact ⟨hbd, .inr rfl⟩
    case c_tf => intro _ _; refine ⟨hbd, ?_⟩; rw [hw]; exact ih (i + 1) (by omega)
    case c_f => intro h; simp only [decide_eq_false_iff_not] at h; omega
theorem great_at4c (m : Mac) (ok : MacOk m) : ∀ (k i : Nat), i + k = m.dirty.n →
    GoToE Try.prog 43 NoughtOne (headOf Try.f43 3) ⟨113, 1000, [(1, .ptr 0 0), (83, .row 1 0 2 2), (84, .int .i64 ((↑(2 : Nat) : Int))), (85, .int .i64 ((0 : Int))), (89, nums m.dirty), (90, .int .i64 ((↑m.dirty.n : Int))), (91, .int .i64 i)], [(0, .cells 30 m.e), (1, .cells 26 [nums m.dirty, nums m.drive.pending])]⟩ := by
  intro k
  induction k with
  | zero =>
    intro i hi
    apply w43c_4 m i
    case c_f => intro _; rw [wrap01]; exact w43d_3 m ⟨by omega, great_at4d m ok m.drive.pending.n 0 (by omega)⟩
    all_goals (intro h; simp only [decide_eq_true_eq] at h; omega)
  | succ k ih =>
    intro i hi
    have hw := wrap_succ (i := i) (n := m.dirty.n) (by omega) ok.dirtys
    have hbd : (0 : Int) ≤ i ∧ (i : Int) < m.dirty.n := by omega
    apply w43c_4 m i
    case c_tt => intro _ _; exact ⟨hbd, .inr rfl⟩
    case c_tf => intro _ _; refine ⟨hbd, ?_⟩; rw [hw]; exact ih (i + 1) (by omega)
    case c_f => intro h; simp only [decide_eq_false_iff_not] at h; omega
theorem great_at2b (m : Mac) (ok : MacOk m) : ∀ (k i : Nat), i + k = m.drive.blocks.n →
    GoToE Try.prog 43 NoughtOne (headOf Try.f43 1) ⟨113, 1000, [(1, .ptr 0 0), (61, .row 1 0 2 2), (62, .int .i64 ((↑(2 : Nat) : Int))), (63, .int .i64 ((1 : Int))), (67, strs m.drive.blocks), (68, .int .i64 ((↑m.drive.blocks.n : Int))), (69, .int .i64 i)], [(0, .cells 30 m.e), (1, .cells 23 [strs m.frames, strs m.drive.blocks])]⟩ := by
  intro k
  induction k with
  | zero =>
    intro i hi
    apply w43b_2 m i
    case c_f => intro _; rw [wrap11]; exact w43_1 m (w43c_3 m ⟨by omega, great_at4c m ok m.dirty.n 0 (by omega)⟩)
    all_goals (intro h; simp only [decide_eq_true_eq] at h; omega)
  | succ k ih =>
    intro i hi
    have hw := wrap_succ (i := i) (n := m.drive.blocks.n) (by omega) ok.blocks
    have hbd : (0 : Int) ≤ i ∧ (i : Int) < m.drive.blocks.n := by omega
    apply w43b_2 m i
    case c_tt => intro _ _; exact ⟨hbd, .inr rfl⟩
    case c_tf => intro _ _; refine ⟨hbd, ?_⟩; rw [hw]; exact ih (i + 1) (by omega)
    case c_f => intro h; simp only [decide_eq_false_iff_not] at h; omega
theorem great_at2a (m : Mac) (ok : MacOk m) : ∀ (k i : Nat), i + k = m.frames.n →
    GoToE Try.prog 43 NoughtOne (headOf Try.f43 1) ⟨113, 1000, [(1, .ptr 0 0), (61, .row 1 0 2 2), (62, .int .i64 ((↑(2 : Nat) : Int))), (63, .int .i64 ((0 : Int))), (67, strs m.frames), (68, .int .i64 ((↑m.frames.n : Int))), (69, .int .i64 i)], [(0, .cells 30 m.e), (1, .cells 23 [strs m.frames, strs m.drive.blocks])]⟩ := by
  intro k
  induction k with
  | zero =>
    intro i hi
    apply w43a_2 m i
    case c_f => intro _; rw [wrap01]; exact w43b_1 m ⟨by omega, great_at2b m ok m.drive.blocks.n 0 (by omega)⟩
    all_goals (intro h; simp only [decide_eq_true_eq] at h; omega)
  | succ k ih =>
    intro i hi
    have hw := wrap_succ (i := i) (n := m.frames.n) (by omega) ok.frames
    have hbd : (0 : Int) ≤ i ∧ (i : Int) < m.frames.n := by omega
    apply w43a_2 m i
    case c_tt => intro _ _; exact ⟨hbd, .inr rfl⟩
    case c_tf => intro _ _; refine ⟨hbd, ?_⟩; rw [hw]; exact ih (i + 1) (by omega)
    case c_f => intro h; simp only [decide_eq_false_iff_not] at h; omega
theorem great_spec (m : Mac) (ok : MacOk m) : ∃ g : Int, (g = 0 ∨ g = 1) ∧ SpecD Try.prog 43 [.agg m.e] (.int .i64 g) := by
  have h : SpecE Try.prog 43 [.agg m.e] NoughtOne := by
    refine specE_of (Try.func43) (by kernel_rfl) (by kernel_rfl) (by kernel_rfl) ?_
    apply w43_0 m
    case c_t => intro _; exact ⟨by omega, .inr rfl⟩
    case c_ft => intro _ _; exact ⟨by omega, .inr rfl⟩
    case c_ff => intro _ _; exact ⟨by omega, w43a_1 m ⟨by omega, great_at2a m ok m.frames.n 0 (by omega)⟩⟩
  obtain ⟨r, hr | hr, h⟩ := h
  · subst hr; exact ⟨0, .inl rfl, h⟩
  · subst hr; exact ⟨1, .inr rfl, h⟩
end Go.Hb
