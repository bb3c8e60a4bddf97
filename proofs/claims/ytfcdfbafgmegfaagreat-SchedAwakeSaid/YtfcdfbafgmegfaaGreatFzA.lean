/-
  THE FUNCTIONS OF THE GREAT SEAT, PART ZA: 'SchedAwake' hands back true.
-/
import Derived.Test.YtfcdfbafgmegfaaGreatFnX
import Derived.Test.YtfcdfbafgmegfaaGreatLaH
import Derived.Test.YtfcdfbafgmegfaaGreatWkZA
namespace Go.Hb
open Go.RowKit Go.Proofs
set_option maxRecDepth 100000

theorem goes_state (m : Mac) (p : Prc) : goesF m p = (p.n 2 != (wakeP m p).n 2) := by
  unfold wakeP
  cases h : goesF m p with
  | false => rw [if_neg (by simp)]; simp
  | true => rw [if_pos rfl, goes_waits h]; rfl
theorem posN_wake {m : Mac} (ok : PosN m) : PosN (wakeM m) := by
  refine ⟨ok.procs, ok.pipes, fun i hi => ?_⟩
  have hi : i < m.procs.n := hi
  rw [wake_f m hi]
  unfold wakeP
  split
  · exact Int.le_refl 0
  · exact ok.n i hi

theorem awake_at (m : Mac) (ok : MacOk m) (hk : checkF m = 0) : ∀ (k i : Nat), i + k = m.procs.n →
    GoToE Tryz.prog 4 (fun r => Le r (.bool true)) (headOf Tryz.f4 0) ⟨83, 1000, [(1, .ptr 0 0), (3, .ptr 1 0), (33, prcs (wakeM m).procs), (34, .int .i64 ((↑(wakeM m).procs.n : Int))), (35, .int .i64 i)], [(0, .cells 30 m.e), (1, .cells 30 (wakeM m).e)]⟩ := by
  have hn := ok.procs
  have hr := (fine_of hk).rising'
  have hrx := (fine_of (checkF_wake hk)).rising'
  intro k
  induction k with
  | zero =>
    intro i hi
    apply z4_1 m (wakeM m) (wakeM m) false true true true false false true true 0 i
    case c_ft => intro _ _; exact ⟨fixed_spec, alike27_spec m ok.sm, Le.refl _⟩
    case c_ff => intro _ h; cases h
    all_goals (intro h; simp only [decide_eq_true_eq] at h; have h : (i : Int) < (m.procs.n : Int) := h; omega)
  | succ k ih =>
    intro i hi
    have hw := wrap_succ (i := i) (n := m.procs.n) (by omega) hn
    have hbx : (0 : Int) ≤ i ∧ (i : Int) < ((wakeM m).procs.n : Int) := by show (0 : Int) ≤ i ∧ (i : Int) < (m.procs.n : Int); omega
    have hbm : (0 : Int) ≤ i ∧ (i : Int) < (m.procs.n : Int) := by omega
    have hxi : (wakeM m).procs.f i = wakeP m (m.procs.f i) := wake_f m (by omega)
    have hpid : ((wakeM m).procs.f i).n 0 = (m.procs.f i).n 0 := by rw [hxi]; exact woke_n (by omega) (by omega) (by omega)
    have c1 := could27_spec (wakeM m) (((wakeM m).procs.f i).n 0) (posN_wake ok.posN)
    rw [could_at hrx (show i < (wakeM m).procs.n from (by omega : i < m.procs.n)), hxi, wake_goes, wake_none] at c1
    have c2 := could27_spec m (((wakeM m).procs.f i).n 0) ok.posN
    rw [hpid, could_at hr (by omega), goes_state, ← hxi, ← hpid] at c2
    rw [← hxi] at c1
    have heq : ∀ l, (((m.procs.f i).n 2 != ((wakeM m).procs.f i).n 2) = true → l = (wokeP (m.procs.f i)).e) → (((m.procs.f i).n 2 != ((wakeM m).procs.f i).n 2) = false → l = (m.procs.f i).e) → EqRun Tryz.prog 51 l ((wakeM m).procs.f i).e true := fun l h1 h2 => by
      rw [hxi] at h1 h2 ⊢
      rw [← goes_state] at h1 h2
      cases hg : goesF m (m.procs.f i) with
      | true =>
        have e : wakeP m (m.procs.f i) = wokeP (m.procs.f i) := by unfold wakeP; rw [hg]; rfl
        rw [h1 hg, e]; exact prc_self _
      | false =>
        have e : wakeP m (m.procs.f i) = m.procs.f i := by unfold wakeP; rw [hg]; rfl
        rw [h2 hg, e]; exact prc_self _
    apply z4_1 m (wakeM m) (wakeM m) false true true true false ((m.procs.f i).n 2 != ((wakeM m).procs.f i).n 2) true true 0 i
    case c_tt => intro _ h; cases h
    case c_tft => intro _ _ h; simp at h
    case c_tfftt => intro _ _ _ _ h; cases h
    case c_tfftf =>
      intro _ _ _ h _
      simp only [Int.toNat_natCast] at h ⊢
      refine ⟨hbx, hbm, c1, c2, heq _ (fun _ => rfl) (fun h2 => by rw [h] at h2; cases h2), ?_⟩
      rw [hw]; exact ih (i + 1) (by omega)
    case c_tffft => intro _ _ _ _ h; cases h
    case c_tffff =>
      intro _ _ _ h _
      simp only [Int.toNat_natCast] at h ⊢
      refine ⟨hbx, hbm, c1, c2, heq _ (fun h2 => by rw [h] at h2; cases h2) (fun _ => rfl), ?_⟩
      rw [hw]; exact ih (i + 1) (by omega)
    all_goals (intro h; simp only [decide_eq_false_iff_not] at h; exact absurd hbx.2 h)

theorem awake_spec (m : Mac) (ok : MacOk m) : SpecD Tryz.prog 4 [.agg m.e] (.bool true) := by
  refine (specE_of (Tryz.func4) (by kernel_rfl) (by kernel_rfl) (by kernel_rfl) ?_).le
  obtain ⟨g, hg, h⟩ := great27_spec m ok
  cases g with
  | true =>
    apply z4_0 m m m true true true true false false true true 0
    case c_t => intro _; exact ⟨h, fixed_spec, Le.refl _⟩
    all_goals (intro h; cases h)
  | false =>
    have hk := hg rfl
    have h8 := (fine_of hk).procs
    have hx := wake_spec m ok.posN (by omega)
    have hy := wake_spec (wakeM m) (posN_wake ok.posN) (by show m.procs.n ≤ 4096; omega)
    have hc := ncheck_spec (wakeM m) ⟨ok.frames, ok.procs, ok.pipes, ok.blocks, ok.pendings, ok.dirtys⟩
    rw [checkF_wake hk] at hc
    have hs := (alike27_spec (wakeM m) ⟨ok.frames, ok.procs, ok.pipes, ok.dirtys⟩).args (ss := [.agg (wakeM (wakeM m)).e, .agg (wakeM m).e])
      (.cons (.agg (.cons (.refl _) <| .cons (.refl _) <| .cons (.refl _) <| .cons (.refl _) <| .cons (.refl _) <| .cons (.seq rfl fun i hi => congrArg Prc.e (wake_twice m hi)) <| .refl _)) (.refl _))
    apply z4_0 m (wakeM m) (wakeM (wakeM m)) false true true true false false true true 0
    case c_t => intro h; cases h
    case c_ft => intro _ h; simp [wake_n] at h
    case c_fft => intro _ _ h; cases h
    case c_ffft => intro _ _ _ h; cases h
    case c_ffff => intro _ _ _ _; exact ⟨h, hx, hc, hy, hs, awake_at m ok hk m.procs.n 0 (by omega)⟩
end Go.Hb
