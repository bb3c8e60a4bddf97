/-
  THE FUNCTIONS, PART Y: 'SchedStays' hands back true.
-/
import Derived.Test.YtfcdfbafgmegfaaFnX
import Derived.Test.YtfcdfbafgmegfaaLaD
import Derived.Test.YtfcdfbafgmegfaaWkS
namespace Go.Hb
open Go.RowKit Go.Proofs
set_option maxRecDepth 100000

theorem stays_tag0 (m x : Mac) (n i : Int) (c : Bool) {Q : V → Prop} (g : GoToE Try.prog 10 Q (headOf Try.f10 0) ⟨96, 1000, [(1, .ptr 0 0), (3, .ptr 1 0), (4, .int .i64 n), (5, .bool c), (17, prcs m.procs), (18, .int .i64 ((↑m.procs.n : Int))), (19, .int .i64 i)], [(0, .cells 30 m.e), (1, .cells 30 x.e)]⟩) :
    GoToE Try.prog 10 Q (headOf Try.f10 0) ⟨96, 1000, [(1, .ptr 0 0), (3, .ptr 1 0), (4, .int .i64 n), (5, .tt c), (17, prcs m.procs), (18, .int .i64 ((↑m.procs.n : Int))), (19, .int .i64 i)], [(0, .cells 30 m.e), (1, .cells 30 x.e)]⟩ := by
  obtain ⟨res, hq, g⟩ := g
  exact ⟨res, hq, GoTo.ent (obs := [Le (.ptr 0 0) (.ptr 0 0), Le (.ptr 1 0) (.ptr 1 0), Le (.int .i64 n) (.int .i64 n), Le (.tt c) (.bool c), Le (prcs m.procs) (prcs m.procs), Le (.int .i64 ((↑m.procs.n : Int))) (.int .i64 ((↑m.procs.n : Int))), Le (.int .i64 i) (.int .i64 i), LeB (.cells 30 m.e) (.cells 30 m.e), LeB (.cells 30 x.e) (.cells 30 x.e)]) rfl
    ⟨.refl _, .refl _, .refl _, Le.tt c, .refl _, .refl _, .refl _, LeB.refl _, LeB.refl _, trivial⟩ (by omega) g⟩
theorem stays_tag1 (m x : Mac) (i : Int) (c : Bool) {Q : V → Prop} (g : GoToE Try.prog 10 Q (headOf Try.f10 1) ⟨96, 1000, [(1, .ptr 0 0), (3, .ptr 1 0), (8, .bool c), (61, prcs x.procs), (62, .int .i64 ((↑x.procs.n : Int))), (63, .int .i64 i)], [(0, .cells 30 m.e), (1, .cells 30 x.e)]⟩) :
    GoToE Try.prog 10 Q (headOf Try.f10 1) ⟨96, 1000, [(1, .ptr 0 0), (3, .ptr 1 0), (8, .tt c), (61, prcs x.procs), (62, .int .i64 ((↑x.procs.n : Int))), (63, .int .i64 i)], [(0, .cells 30 m.e), (1, .cells 30 x.e)]⟩ := by
  obtain ⟨res, hq, g⟩ := g
  exact ⟨res, hq, GoTo.ent (obs := [Le (.ptr 0 0) (.ptr 0 0), Le (.ptr 1 0) (.ptr 1 0), Le (.tt c) (.bool c), Le (prcs x.procs) (prcs x.procs), Le (.int .i64 ((↑x.procs.n : Int))) (.int .i64 ((↑x.procs.n : Int))), Le (.int .i64 i) (.int .i64 i), LeB (.cells 30 m.e) (.cells 30 m.e), LeB (.cells 30 x.e) (.cells 30 x.e)]) rfl
    ⟨.refl _, .refl _, Le.tt c, .refl _, .refl _, .refl _, LeB.refl _, LeB.refl _, trivial⟩ (by omega) g⟩

theorem stays_at1 (m : Mac) (ok : MacOk m) (c0 q0 : Int) : ∀ (k i : Nat) (c : Bool), i + k = m.procs.n → (c = true ∨ ∃ j, i ≤ j ∧ j < m.procs.n ∧ onB { m with cur := c0 } j = true) →
    GoToE Try.prog 10 (fun r => Le r (.bool true)) (headOf Try.f10 1) ⟨96, 1000, [(1, .ptr 0 0), (3, .ptr 1 0), (8, .bool c), (61, prcs m.procs), (62, .int .i64 ((↑m.procs.n : Int))), (63, .int .i64 i)], [(0, .cells 30 m.e), (1, .cells 30 ({ m with cur := c0, left := q0 } : Mac).e)]⟩ := by
  have hn := ok.procs
  intro k
  induction k with
  | zero =>
    intro i c hi hc
    have hc' : c = true := by
      rcases hc with h | ⟨j, h1, h2, _⟩
      · exact h
      · omega
    apply w10_2 m { m with cur := c0, left := q0 } false true true true 0 i c
    case c_ftt => intro _ _ _; exact ⟨fixed_spec, alike27_spec m ok.sm, Le.refl _⟩
    case c_ftf => intro _ _ h; rw [hc'] at h; cases h
    case c_ff => intro _ h; cases h
    all_goals (intro h; simp only [decide_eq_true_eq] at h; omega)
  | succ k ih =>
    intro i c hi hc
    have hw := wrap_succ (i := i) (n := m.procs.n) (by omega) hn
    have hb : (0 : Int) ≤ i ∧ (i : Int) < m.procs.n := by omega
    have hnext : c = false → onB { m with cur := c0 } i = false → ∃ j, i + 1 ≤ j ∧ j < m.procs.n ∧ onB { m with cur := c0 } j = true := fun h0 h1 => by
      rcases hc with h | ⟨j, h2, h3, h4⟩
      · rw [h0] at h; cases h
      · by_cases hji : j = i
        · subst hji; rw [h1] at h4; cases h4
        · exact ⟨j, by omega, h3, h4⟩
    apply w10_2 m { m with cur := c0, left := q0 } false true true true 0 i c
    case c_tt => intro _ _; refine ⟨hb, ?_⟩; rw [hw]; exact stays_tag1 m _ _ true (ih (i + 1) true (by omega) (.inl rfl))
    case c_tft =>
      intro _ h0 h
      simp only [Int.toNat_natCast] at h
      refine ⟨hb, ?_⟩
      rw [hw, Int.toNat_natCast]
      refine ih (i + 1) _ (by omega) ?_
      have h' : ((m.procs.f i).n 0 == c0) = true := h
      by_cases hr : (m.procs.f i).n 2 = 1
      · exact .inl (beq_iff_eq.2 hr)
      · refine .inr (hnext h0 ?_)
        have : ((m.procs.f i).n 2 == 1) = false := beq_eq_false_iff_ne.2 hr
        simp only [onB, this, Bool.false_and]
    case c_tff =>
      intro _ h0 h
      simp only [Int.toNat_natCast] at h
      refine ⟨hb, ?_⟩
      rw [hw]
      refine stays_tag1 m _ _ false (ih (i + 1) false (by omega) (.inr (hnext h0 ?_)))
      have h' : ((m.procs.f i).n 0 == c0) = false := h
      simp only [onB, h', Bool.and_false]
    all_goals (intro h; simp only [decide_eq_false_iff_not] at h; exact absurd hb.2 h)

theorem stays_at0 (m : Mac) (ok : MacOk m) (hk : checkF m = 0) (c0 q0 : Int) (hx : pickM m = { m with cur := c0, left := q0 }) : ∀ (k i : Nat), i + k = m.procs.n →
    GoToE Try.prog 10 (fun r => Le r (.bool true)) (headOf Try.f10 0) ⟨96, 1000, [(1, .ptr 0 0), (3, .ptr 1 0), (4, .int .i64 (cnt (rdyB m) i)), (5, .bool (anyK (onB m) i)), (17, prcs m.procs), (18, .int .i64 ((↑m.procs.n : Int))), (19, .int .i64 i)], [(0, .cells 30 m.e), (1, .cells 30 ({ m with cur := c0, left := q0 } : Mac).e)]⟩ := by
  have hn := ok.procs
  have hf := fine_of hk
  have hr := hf.rising'
  have hck : checkF { m with cur := c0, left := q0 } = 0 := by rw [← hx]; exact checkF_pick hk hr
  have hcs : SpecD Try.prog 44 [.agg ({ m with cur := c0, left := q0 } : Mac).e] (.int .i64 0) := by
    have := ncheck_spec { m with cur := c0, left := q0 } ⟨ok.frames, ok.procs, ok.pipes, ok.blocks, ok.pendings, ok.dirtys⟩
    rw [hck] at this; exact this
  have hsame : (anyK (onB m) m.procs.n = true ∧ 0 < m.left) ∨ cnt (rdyB m) m.procs.n = 0 → SpecD Try.prog 22 [.agg ({ m with cur := c0, left := q0 } : Mac).e, .agg m.e] (.bool true) := fun h => by
    have e := stays_same hr hf.cur h
    rw [← hx, e]; exact alike27_spec m ok.sm
  intro k
  induction k with
  | zero =>
    intro i hi
    obtain rfl : i = m.procs.n := by omega
    have hout : ∀ b : Bool, (b = true ↔ cnt (rdyB m) m.procs.n = 0) → GoToE Try.prog 10 (fun r => Le r (.bool true)) (headOf Try.f10 1) ⟨96, 1000, [(1, .ptr 0 0), (3, .ptr 1 0), (8, .bool b), (61, prcs m.procs), (62, .int .i64 ((↑m.procs.n : Int))), (63, .int .i64 (0 : Nat))], [(0, .cells 30 m.e), (1, .cells 30 ({ m with cur := c0, left := q0 } : Mac).e)]⟩ := fun b hb => by
      refine stays_at1 m ok c0 q0 m.procs.n 0 b (by omega) ?_
      by_cases h0 : cnt (rdyB m) m.procs.n = 0
      · exact .inl (hb.2 h0)
      · have := stays_found hr hf.cur h0
        rw [hx] at this
        obtain ⟨j, h1, h2⟩ := (anyK_iff _ _).1 this
        exact .inr ⟨j, Nat.zero_le _, h1, h2⟩
    have hz : ((cnt (rdyB m) m.procs.n : Int) == 0) = true ↔ cnt (rdyB m) m.procs.n = 0 := by rw [beq_iff_eq]; omega
    apply w10_1 m { m with cur := c0, left := q0 } false true true true 0 (cnt (rdyB m) m.procs.n) m.procs.n (anyK (onB m) m.procs.n)
    case c_fttff => intro _ h1 h2 _ _; simp only [decide_eq_true_eq] at h2; exact ⟨hsame (.inl ⟨h1, by omega⟩), hcs, hout _ hz⟩
    case c_ftftff => intro _ _ _ h1 _ _; exact ⟨hsame (.inr (hz.1 h1)), hcs, hout _ hz⟩
    case c_ftfff => intro _ _ _ _ _; exact ⟨hcs, hout _ hz⟩
    case c_fftff => intro _ _ h1 _ _; exact ⟨hsame (.inr (hz.1 h1)), hcs, hout _ hz⟩
    case c_ffff => intro _ _ _ _; exact ⟨hcs, hout _ hz⟩
    case c_fttt => intro _ _ _ h; cases h
    case c_fttft => intro _ _ _ _ h; cases h
    case c_ftftt => intro _ _ _ _ h; cases h
    case c_ftftft => intro _ _ _ _ _ h; cases h
    case c_ftfft => intro _ _ _ _ h; cases h
    case c_fftt => intro _ _ _ h; cases h
    case c_fftft => intro _ _ _ _ h; cases h
    case c_ffft => intro _ _ _ h; cases h
    all_goals (intro h; simp only [decide_eq_true_eq] at h; omega)
  | succ k ih =>
    intro i hi
    have hw := wrap_succ (i := i) (n := m.procs.n) (by omega) hn
    have hb : (0 : Int) ≤ i ∧ (i : Int) < m.procs.n := by omega
    have hcb := cnt_bound (rdyB m) i
    have hwc : IntKind.i64.wrap ((cnt (rdyB m) i : Int) + 1) = ((cnt (rdyB m) i + 1 : Nat) : Int) := by rw [IntWalk.i64_in _ (by omega)]; omega
    have e1 : rdyB m i = true → cnt (rdyB m) (i + 1) = cnt (rdyB m) i + 1 := fun h => by simp [cnt, h]
    have e0 : rdyB m i = false → cnt (rdyB m) (i + 1) = cnt (rdyB m) i := fun h => by simp [cnt, h]
    have ih := ih (i + 1) (by omega)
    apply w10_1 m { m with cur := c0, left := q0 } false true true true 0 (cnt (rdyB m) i) i (anyK (onB m) i)
    case c_ttt =>
      intro _ h h2
      simp only [Int.toNat_natCast] at h
      refine ⟨hb, ?_⟩
      rw [hw, hwc, ← e1 h]
      refine stays_tag0 m _ _ _ true ?_
      rw [show anyK (onB m) (i + 1) = true by simp [anyK, h2]] at ih
      exact ih
    case c_ttf =>
      intro _ h h2
      simp only [Int.toNat_natCast] at h
      refine ⟨hb, ?_⟩
      rw [hw, hwc, ← e1 h, Int.toNat_natCast]
      rw [show anyK (onB m) (i + 1) = ((m.procs.f i).n 0 == m.cur) by simp only [anyK, h2, onB, h, Bool.false_or, Bool.true_and]] at ih
      exact ih
    case c_tf =>
      intro _ h
      simp only [Int.toNat_natCast] at h
      refine ⟨hb, ?_⟩
      rw [hw]
      rw [show anyK (onB m) (i + 1) = anyK (onB m) i by simp only [anyK, onB, h, Bool.false_and, Bool.or_false], e0 h] at ih
      exact ih
    all_goals (intro h; simp only [decide_eq_false_iff_not] at h; exact absurd hb.2 h)

theorem stays_spec (m : Mac) (ok : MacOk m) : SpecD Try.prog 10 [.agg m.e] (.bool true) := by
  refine (specE_of (Try.func10) (by kernel_rfl) (by kernel_rfl) (by kernel_rfl) ?_).le
  obtain ⟨g, hg, h⟩ := great27_spec m ok
  obtain ⟨c0, q0, hx⟩ := pickM_at m
  have hp := pick_spec m ok.procs
  rw [hx] at hp
  apply w10_0 m { m with cur := c0, left := q0 } g true true true 0
  case c_t => intro _; exact ⟨h, fixed_spec, Le.refl _⟩
  case c_f =>
    intro h0
    exact ⟨h, hp, stays_tag0 m _ 0 0 false (stays_at0 m ok (hg h0) c0 q0 hx m.procs.n 0 (by omega))⟩
end Go.Hb
