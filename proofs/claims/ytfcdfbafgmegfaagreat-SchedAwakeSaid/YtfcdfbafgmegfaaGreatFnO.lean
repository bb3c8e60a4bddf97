/-
  THE FUNCTIONS, PART O: a row of processes cloned; the machine in which they are awake; 'SchedWakes' hands back true.
-/
import Derived.Test.YtfcdfbafgmegfaaGreatFnN
namespace Go.Hb
open Go.RowKit Go.Proofs
set_option maxRecDepth 100000

theorem lim568 {n : Nat} (h : n ≤ 4096) : (0 + n) * 568 ≤ 140737488355328 ∧ 0 + n ≤ maxLen := by
  have : (65536 : Nat) ≤ maxLen := by decide
  omega

theorem clone_spec (l : Sq Prc) (hn : l.n ≤ 4096) : SpecV Tryz.prog 32 [prcs l] 51 96 l.n (fun i => (l.f i).e) := by
  obtain ⟨n, f⟩ := l
  by_cases h0 : n = 0
  · subst h0
    have h1 : SpecV Tryz.prog 32 [.nilsl] 51 96 0 (fun i => (f i).e) := SpecV.of_nil (specE_of (Tryz.func32) (by kernel_rfl) (by kernel_rfl) (by kernel_rfl) (w69n_0 rfl)).eq
    have h2 : SpecV Tryz.prog 32 [.esl] 51 96 0 (fun i => (f i).e) := by
      have h : SpecW Tryz.prog 32 [.esl] 51 96 (fun n _ => n = 0) := specW_of (Tryz.func32) (by kernel_rfl) (by kernel_rfl) (by kernel_rfl) (w69e_0 ⟨lim568 (n := 0) (by omega), by omega, rfl⟩)
      obtain ⟨n, g, rfl, h⟩ := h
      exact h.congr rfl fun i hi => absurd hi (Nat.not_lt_zero i)
    exact Spec.nil_or h1 h2
  · have h : SpecW Tryz.prog 32 [prcs ⟨n, f⟩] 51 96 (fun k g => k = n ∧ g = fun i => (f i).e) := specW_of (Tryz.func32) (by kernel_rfl) (by kernel_rfl) (by kernel_rfl)
      (w69_0 ⟨n, f⟩ ⟨by show 0 < n; omega, lim568 hn, by omega, by show 0 + n = n; omega, by funext i; simp [joinF]⟩)
    obtain ⟨k, g, ⟨rfl, rfl⟩, h⟩ := h
    exact h

theorem wakeI_n (m : Mac) (i : Nat) : (wakeI m i).n = m.procs.n := rfl
theorem wake_at (m : Mac) (ok : PosN m) : ∀ (k i : Nat), i + k = m.procs.n →
    GoToE Tryz.prog 17 (Eq (.agg (wakeM m).e)) (headOf Tryz.f17 0) ⟨35, 1000, [(1, .ptr 0 0), (2, .ptr 1 0), (3, .vec 2), (9, .vec 2), (10, .int .i64 ((wakeI m i).n : Int)), (11, .int .i64 i)], [(0, .cells 30 m.e), (1, .cells 30 [.int .u64 ((0 : Int)), .int .i64 ((0 : Int)), .int .i64 ((0 : Int)), .int .i64 ((0 : Int)), .nilsl, .nilsl, .int .i64 ((0 : Int)), .str ({ data := #[] : ByteArray }), .nilsl, .int .i64 ((0 : Int)), .str ({ data := #[] : ByteArray }), .tt false, .int .u64 ((0 : Int)), .nilsl, .nilsl, .int .i64 ((0 : Int)), .nilsl]), (2, .vec 51 96 (wakeI m i).n fun j => ((wakeI m i).f j).e)]⟩ := by
  intro k
  induction k with
  | zero =>
    intro i hi
    obtain rfl : i = m.procs.n := by omega
    apply w25_1 m (wakeI m m.procs.n) m.procs.n false
    case c_f => intro _; rfl
    all_goals (intro h; simp only [decide_eq_true_eq] at h; rw [wakeI_n] at h; omega)
  | succ k ih =>
    intro i hi
    have hw := wrap_succ (i := i) (n := m.procs.n) (by omega) ok.procs
    have hb : (0 : Int) ≤ i ∧ (i : Int) < ((wakeI m i).n : Int) := by show (0 : Int) ≤ i ∧ (i : Int) < (m.procs.n : Int); omega
    have hlt : (i : Int).toNat < (wakeI m i).n := by rw [Int.toNat_natCast]; show i < m.procs.n; omega
    have hs : SpecD Tryz.prog 46 [.agg m.e, .agg ((wakeI m i).f (i : Int).toNat).e] (.bool (goesF m (m.procs.f i))) := by rw [Int.toNat_natCast, wakeI_at]; exact goes_spec m _ ok.procs ok.pipes (ok.n i (by omega))
    apply w25_1 m (wakeI m i) i (goesF m (m.procs.f i))
    case c_f => intro h; simp only [decide_eq_false_iff_not] at h; rw [wakeI_n] at h; omega
    case c_tt =>
      intro _ hg
      refine ⟨hb, hlt, hs, hb, hlt, hb, hlt, hb, hlt, ?_⟩
      rw [hw]
      refine GoToE.reVec 2 (n' := m.procs.n) (g' := fun j => ((wakeI m (i + 1)).f j).e) rfl rfl (fun j hj => ?_) (ih (i + 1) (by omega))
      rw [Int.toNat_natCast, wakeI_step]
      by_cases hji : j = i
      · subst hji
        simp only [eq_self, if_true, wakeI_at]
        unfold wakeP
        rw [if_pos hg]
        exact woke_cells _
      · simp only [if_neg hji]
    case c_tf =>
      intro _ hg
      refine ⟨hb, hlt, hs, ?_⟩
      rw [hw]
      refine GoToE.reVec 2 (n' := m.procs.n) (g' := fun j => ((wakeI m (i + 1)).f j).e) rfl rfl (fun j hj => ?_) (ih (i + 1) (by omega))
      show ((wakeI m i).f j).e = ((wakeI m (i + 1)).f j).e
      rw [wakeI_step]
      by_cases hji : j = i
      · subst hji; rw [if_pos rfl, wakeI_at]; unfold wakeP; rw [hg]; rfl
      · rw [if_neg hji]
theorem wake_spec (m : Mac) (ok : PosN m) (h8 : m.procs.n ≤ 4096) : SpecD Tryz.prog 17 [.agg m.e] (.agg (wakeM m).e) := by
  refine (specE_of (Tryz.func17) (by kernel_rfl) (by kernel_rfl) (by kernel_rfl) ?_).eq
  refine w25_0 m ⟨clone_spec m.procs h8, ?_⟩
  refine GoToE.reVec 2 (n' := m.procs.n) (g' := fun j => ((wakeI m 0).f j).e) rfl rfl (fun j hj => ?_) (wake_at m ok m.procs.n 0 (by omega))
  show (m.procs.f j).e = ((wakeI m 0).f j).e
  simp [wakeI]

end Go.Hb
