/-
  THE FUNCTIONS, PART V: the own code's Home of a journal, 'volume' and 'disk' of a machine, as the document's.
-/
import Derived.Test.YtfcdfbafgmegfaaFnU
import Derived.Test.YtfcdfbafgmegfaaFnS
import Derived.Test.YtfcdfbafgmegfaaDgC
namespace Go.Hb
open Go.RowKit Go.Proofs
set_option maxRecDepth 100000

theorem nhome_at (d : Drv) (hp : d.pending.n ≤ 140737488355328) (hb : badF d = 0) : ∀ (k i : Nat), i + k = d.blocks.n - 33 →
    GoToE Try.prog 138 (fun x => Le x (strs (homeF d))) (headOf Try.f138 0) ⟨28, 1000, [(1, .ptr 0 0), (3, .vec 1), (4, .int .i64 ((33 + i : Nat) : Int))], [(0, .cells 28 d.e), (1, .vec 9 1 i fun i => [.str (blockF d (33 + i))])]⟩ := by
  have hz := badF_zero hb
  intro k
  induction k with
  | zero =>
    intro i hi
    apply w138v_1 d 0 ⟨#[]⟩ 0 ⟨i, fun i => blockF d (33 + i)⟩ ((33 + i : Nat) : Int)
    case c_f => intro _; rw [homeF, if_neg (by omega), show i = d.blocks.n - 33 by omega]; exact Le.refl _
    all_goals (intro h; simp only [decide_eq_true_eq] at h; omega)
  | succ k ih =>
    intro i hi
    have hw := wrap_succ (i := 33 + i) (n := d.blocks.n) (by omega) (by omega)
    apply w138v_1 d 0 (blockF d (33 + i)) 0 ⟨i, fun i => blockF d (33 + i)⟩ ((33 + i : Nat) : Int)
    case c_t =>
      intro _
      refine ⟨nblock_spec d hp (33 + i) (by omega), ?_, ?_⟩
      · have : (65536 : Nat) ≤ maxLen := by decide
        simp only []; omega
      · rw [hw]
        refine GoToE.reVec 1 rfl rfl (fun j hj => ?_) (ih (i + 1) (by omega))
        have hj : j < i + 1 := hj
        simp only [joinF]
        by_cases hji : j < i
        · rw [if_pos hji]
        · rw [if_neg hji, show j = i by omega, Nat.sub_self]; rfl
    case c_f => intro h; simp only [decide_eq_false_iff_not] at h; omega

theorem nhome_spec (d : Drv) (hb : d.blocks.n ≤ 140737488355328) (hp : d.pending.n ≤ 140737488355328) : SpecD Try.prog 138 [.agg d.e] (strs (homeF d)) := by
  refine (specE_of (Try.func138) (by kernel_rfl) (by kernel_rfl) (by kernel_rfl) ?_).le
  have hs := nbad_spec d hb hp
  apply w138_0 d (badF d) ⟨#[]⟩ 0
  case c_t =>
    intro h
    simp only [bne_iff_ne] at h
    refine ⟨hs, ?_⟩
    rw [homeF, if_pos h]
    exact Le.nil _ _
  case c_f =>
    intro h
    simp only [bne_eq_false_iff_eq] at h
    refine ⟨hs, ?_⟩
    have hz := badF_zero h
    apply w138_1 d 0 (blockF d 33) 0 33
    case c_t =>
      intro _
      refine ⟨nblock_spec d hp 33 (by omega), by decide, ?_⟩
      refine GoToE.reVec 1 (g' := fun i => [.str (blockF d (33 + i))]) rfl rfl (fun j hj => ?_) (nhome_at d hp h (d.blocks.n - 34) 1 (by omega))
      have hj : j < 1 := hj
      rw [show j = 0 by omega]; rfl
    case c_f => intro h; simp only [decide_eq_false_iff_not] at h; omega

theorem cloneS_spec (l : Sq ByteArray) (hn : l.n ≤ 4096) : SpecV Try.prog 118 [strs l] 9 1 l.n (fun i => [.str (l.f i)]) := by
  obtain ⟨n, f⟩ := l
  have hlim : ∀ n, n ≤ 4096 → (0 + n) * 16 ≤ 140737488355328 ∧ 0 + n ≤ maxLen := fun n h => by
    have : (65536 : Nat) ≤ maxLen := by decide
    omega
  by_cases h0 : n = 0
  · subst h0
    have h1 : SpecV Try.prog 118 [.nilsl] 9 1 0 (fun i => [.str (f i)]) := SpecV.of_nil (specE_of (Try.func118) (by kernel_rfl) (by kernel_rfl) (by kernel_rfl) (w118n_0 rfl)).eq
    have h2 : SpecV Try.prog 118 [.esl] 9 1 0 (fun i => [.str (f i)]) := by
      have h : SpecW Try.prog 118 [.esl] 9 1 (fun n _ => n = 0) := specW_of (Try.func118) (by kernel_rfl) (by kernel_rfl) (by kernel_rfl) (w118e_0 ⟨hlim 0 (by omega), by omega, rfl⟩)
      obtain ⟨n, g, rfl, h⟩ := h
      exact h.congr rfl fun i hi => absurd hi (Nat.not_lt_zero i)
    exact Spec.nil_or h1 h2
  · have h : SpecW Try.prog 118 [strs ⟨n, f⟩] 9 1 (fun k g => k = n ∧ g = fun i => [.str (f i)]) := specW_of (Try.func118) (by kernel_rfl) (by kernel_rfl) (by kernel_rfl)
      (w118_0 ⟨n, f⟩ ⟨by show 0 < n; omega, hlim n hn, by omega, by show 0 + n = n; omega, by funext i; simp [joinF]⟩)
    obtain ⟨k, g, ⟨rfl, rfl⟩, h⟩ := h
    exact h

theorem nvol_at (m : Mac) (hd : m.dirty.n ≤ 140737488355328) (N : Nat) (hN : ∀ i, i < m.dirty.n → 0 ≤ (m.dirty.f i).n ∧ (m.dirty.f i).n < N) : ∀ (k i : Nat) (v : Sq ByteArray), v.n = N → i + k = m.dirty.n →
    GoToE Try.prog 140 (Eq (strs (volK m.dirty k i v))) (headOf Try.f140 0) ⟨25, 1000, [(3, .vec 0), (11, nums m.dirty), (12, .int .i64 ((↑m.dirty.n : Int))), (13, .int .i64 i)], [(0, .vec 9 1 v.n fun i => [.str (v.f i)])]⟩ := by
  intro k
  induction k with
  | zero =>
    intro i v hv hi
    apply w140_1 m ⟨0, fun _ => ⟨#[]⟩⟩ v i
    case c_f => intro _; rfl
    all_goals (intro h; simp only [decide_eq_true_eq] at h; omega)
  | succ k ih =>
    intro i v hv hi
    have hw := wrap_succ (i := i) (n := m.dirty.n) (by omega) hd
    have hb : (0 : Int) ≤ i ∧ (i : Int) < m.dirty.n := by omega
    have hr := hN i (by omega)
    have hr' : 0 ≤ (m.dirty.f i).n ∧ (m.dirty.f i).n < v.n := by rw [hv]; exact hr
    apply w140_1 m ⟨0, fun _ => ⟨#[]⟩⟩ v i
    case c_t =>
      intro _
      refine ⟨hb, by rw [Int.toNat_natCast]; exact hr', by rw [Int.toNat_natCast]; omega, ?_⟩
      rw [hw]; simp only [volK]; rw [if_pos hr']
      refine GoToE.reVec 0 rfl rfl (fun j hj => ?_) (ih (i + 1) ⟨v.n, fun j => if j = (m.dirty.f i).n.toNat then (m.dirty.f i).s else v.f j⟩ hv (by omega))
      simp only [Int.toNat_natCast]
      by_cases hji : j = (m.dirty.f i).n.toNat
      · rw [if_pos hji, if_pos hji]; rfl
      · rw [if_neg hji, if_neg hji]
    case c_f => intro h; simp only [decide_eq_false_iff_not] at h; omega

theorem nvol_spec (m : Mac) (hd : m.dirty.n ≤ 140737488355328) (hb : m.drive.blocks.n ≤ 140737488355328) (hp : m.drive.pending.n ≤ 140737488355328) (hN : ∀ i, i < m.dirty.n → 0 ≤ (m.dirty.f i).n ∧ (m.dirty.f i).n < (homeF m.drive).n) : SpecD Try.prog 140 [.agg m.e] (strs (volF m)) := by
  refine (specE_of (Try.func140) (by kernel_rfl) (by kernel_rfl) (by kernel_rfl) ?_).eq
  have hn := home_n m.drive
  exact w140_0 m (homeF m.drive) ⟨nhome_spec _ hb hp, cloneS_spec _ (by omega), nvol_at m hd _ hN m.dirty.n 0 (homeF m.drive) rfl (by omega)⟩

theorem ndisk_at (m : Mac) (hd : m.dirty.n ≤ 140737488355328) (hb : m.drive.blocks.n ≤ 140737488355328) (hp : m.drive.pending.n ≤ 140737488355328) : ∀ (k i : Nat), i + k = m.dirty.n →
    (∀ j, j < i → 0 ≤ (m.dirty.f j).n ∧ (m.dirty.f j).n < (homeF m.drive).n) →
    GoToE Try.prog 90 (Eq (.int .i64 (dirtyK m (homeF m.drive).n k i))) (headOf Try.f90 0) ⟨71, 1000, [(1, .ptr 0 0), (4, .int .i64 ((↑(homeF m.drive).n : Int))), (28, nums m.dirty), (29, .int .i64 ((↑m.dirty.n : Int))), (30, .int .i64 i)], [(0, .cells 30 m.e)]⟩ := by
  have hh := home_n m.drive
  have hv : (volF m).n ≤ 140737488355328 := by rw [volF, volK_n]; omega
  have hwr : IntKind.i64.wrap (((homeF m.drive).n : Int) - 1) = ((homeF m.drive).n : Int) - 1 := IntWalk.i64_in _ (by omega)
  intro k
  induction k with
  | zero =>
    intro i hi hr
    apply w90_1 m 0 (ofF (volF m)).2 (homeF m.drive) (volF m) (ofF (volF m)).1 false i
    case c_f => intro _; exact ⟨nvol_spec m hd hb hp fun j hj => hr j (by omega), nof_spec _ hv, rfl⟩
    all_goals (intro h; simp only [decide_eq_true_eq] at h; omega)
  | succ k ih =>
    intro i hi hr
    have hw := wrap_succ (i := i) (n := m.dirty.n) (by omega) hd
    have hbd : (0 : Int) ≤ i ∧ (i : Int) < m.dirty.n := by omega
    have hpr : 0 < i → IntKind.i64.wrap ((i : Int) - 1) = ((i - 1 : Nat) : Int) := fun h => by rw [IntWalk.i64_in _ (by omega)]; omega
    have hwi := within_spec (m.dirty.f i).n 0 ((homeF m.drive).n - 1)
    have hst : ((m.dirty.f i).n < 0 ∨ (m.dirty.f i).n ≥ (homeF m.drive).n ∨ (m.dirty.f i).s.size ≠ 128 ∨ (0 < i ∧ (m.dirty.f (i - 1)).n ≥ (m.dirty.f i).n)) → Eq (V.int .i64 (dirtyK m (homeF m.drive).n (k + 1) i)) (.int .i64 3) := fun h => by
      simp only [dirtyK]; rw [if_pos h]
    have hgo : ¬ ((m.dirty.f i).n < 0 ∨ (m.dirty.f i).n ≥ (homeF m.drive).n ∨ (m.dirty.f i).s.size ≠ 128 ∨ (0 < i ∧ (m.dirty.f (i - 1)).n ≥ (m.dirty.f i).n)) →
        GoToE Try.prog 90 (Eq (.int .i64 (dirtyK m (homeF m.drive).n (k + 1) i))) (headOf Try.f90 0) ⟨71, 1000, [(1, .ptr 0 0), (4, .int .i64 ((↑(homeF m.drive).n : Int))), (28, nums m.dirty), (29, .int .i64 ((↑m.dirty.n : Int))), (30, .int .i64 (IntKind.i64.wrap ((i : Int) + 1)))], [(0, .cells 30 m.e)]⟩ := fun h => by
      rw [hw]; simp only [dirtyK]; rw [if_neg h]
      refine ih (i + 1) (by omega) fun j hj => ?_
      by_cases hji : j = i
      · subst hji; omega
      · exact hr j (by omega)
    apply w90_1 m 0 (ofF (volF m)).2 (homeF m.drive) (volF m) (ofF (volF m)).1 (decide (0 ≤ (m.dirty.f i).n ∧ (m.dirty.f i).n ≤ ((homeF m.drive).n : Int) - 1)) i
    all_goals try rw [hwr]
    case c_ttt =>
      intro _ h1 h2
      simp only [decide_eq_true_eq] at h1 h2
      rw [hpr (by omega)] at h2 ⊢
      simp only [Int.toNat_natCast] at h2
      exact ⟨hbd, by omega, hst (by omega)⟩
    case c_ttft =>
      intro _ h1 _ h
      simp only [decide_eq_true_eq, Bool.not_eq_true', decide_eq_false_iff_not] at h1 h
      rw [hpr (by omega)]
      exact ⟨hbd, by omega, hwi, hst (by omega)⟩
    case c_ttfft =>
      intro _ h1 _ _ h
      simp only [decide_eq_true_eq, Int.toNat_natCast, bne_iff_ne] at h1 h
      rw [hpr (by omega)]
      exact ⟨hbd, by omega, hwi, hst (by omega)⟩
    case c_ttfff =>
      intro _ h1 h2 h3 h
      simp only [decide_eq_true_eq, decide_eq_false_iff_not, Bool.not_eq_false', bne_eq_false_iff_eq] at h1 h2 h3 h
      rw [hpr (by omega)] at h2 ⊢
      simp only [Int.toNat_natCast] at h h2
      exact ⟨hbd, by omega, hwi, hgo (by omega)⟩
    case c_tft =>
      intro _ h1 h
      simp only [Bool.not_eq_true', decide_eq_false_iff_not] at h
      exact ⟨hbd, hwi, hst (by omega)⟩
    case c_tfft =>
      intro _ h1 _ h
      simp only [Int.toNat_natCast, bne_iff_ne] at h
      exact ⟨hbd, hwi, hst (by omega)⟩
    case c_tfff =>
      intro _ h1 h3 h
      simp only [decide_eq_true_eq, decide_eq_false_iff_not, Bool.not_eq_false', Int.toNat_natCast, bne_eq_false_iff_eq] at h1 h3 h
      exact ⟨hbd, hwi, hgo (by omega)⟩
    case c_f => intro h; simp only [decide_eq_false_iff_not] at h; omega

theorem ndisk_spec (m : Mac) (hd : m.dirty.n ≤ 140737488355328) (hb : m.drive.blocks.n ≤ 140737488355328) (hp : m.drive.pending.n ≤ 140737488355328) : SpecD Try.prog 90 [.agg m.e] (.int .i64 (diskF m)) := by
  refine (specE_of (Try.func90) (by kernel_rfl) (by kernel_rfl) (by kernel_rfl) ?_).eq
  have h1 := ndrv_spec m.drive hb hp
  have h2 := nhome_spec m.drive hb hp
  apply w90_0 m (drvF m.drive) 0 (homeF m.drive) ⟨0, fun _ => ⟨#[]⟩⟩ geo0 false
  case c_t => intro h; simp only [bne_iff_ne] at h; exact ⟨h1, by unfold diskF; rw [if_pos h]⟩
  case c_ft => intro h h3; simp only [bne_eq_false_iff_eq, beq_iff_eq] at h h3; exact ⟨h1, h2, by unfold diskF; rw [if_neg (by omega), if_pos (by omega)]⟩
  case c_fft => intro h h3 h4; simp only [bne_eq_false_iff_eq, beq_eq_false_iff_ne, decide_eq_true_eq] at h h3 h4; exact ⟨h1, h2, by unfold diskF; rw [if_neg (by omega), if_neg (by omega), if_pos (by omega)]⟩
  case c_fff =>
    intro h h3 h4
    simp only [bne_eq_false_iff_eq, beq_eq_false_iff_ne, decide_eq_false_iff_not] at h h3 h4
    refine ⟨h1, h2, ?_⟩
    unfold diskF; rw [if_neg (by omega), if_neg (by omega), if_neg (by omega)]
    exact ndisk_at m hd hb hp m.dirty.n 0 (by omega) fun j hj => absurd hj (Nat.not_lt_zero j)
end Go.Hb
