/-
  THE FUNCTIONS, PART L: 'SchedTurns' hands back true.
-/
import Derived.Test.YtfcdfbafgmegfaaLaT
import Derived.Test.YtfcdfbafgmegfaaWkT
namespace Go.Hb
open Go.RowKit Go.Proofs
set_option maxRecDepth 100000

theorem cnt_bound (q : Nat → Bool) : ∀ n, cnt q n ≤ n
  | 0 => Nat.le_refl _
  | n + 1 => by
    have := cnt_bound q n
    simp only [cnt]
    split <;> omega

theorem turns_at3 (m : Mac) (ok : MacOk m) (h : Rising m) {r c : Int} {val : Int → Option Int} (t : Turns m (cnt (rdyB m) m.procs.n) r c val) (sz : Nat) : ∀ (k i : Nat), i + k = m.procs.n →
    GoToE Try.prog 4 (fun x => Le x (.bool true)) (headOf Try.f4 2) ⟨86, 1000, [(6, .map 0), (8, .int .i64 r), (65, prcs m.procs), (66, .int .i64 ((↑m.procs.n : Int))), (67, .int .i64 i)], [(0, .mapI sz val)]⟩ := by
  have hr : r ≤ 1 := by rcases t.r01 with ⟨h1, _⟩ | ⟨h1, _, _⟩ <;> omega
  intro k
  induction k with
  | zero =>
    intro i hi
    apply w4_3 m false true r i val sz
    case c_ft => intro _ _; refine ⟨fixed_spec, ?_⟩; rw [decide_eq_true hr]; exact Le.refl _
    case c_ff => intro _ h; cases h
    all_goals (intro h; simp only [decide_eq_true_eq] at h; omega)
  | succ k ih =>
    intro i hi
    have hw := wrap_succ (i := i) (n := m.procs.n) (by omega) ok.procs
    have hbd : (0 : Int) ≤ i ∧ (i : Int) < m.procs.n := by omega
    have hv := turns_all h t i (by omega)
    apply w4_3 m false true r i val sz
    case c_tt =>
      intro _ hb
      exfalso
      rw [Int.toNat_natCast, hv] at hb
      by_cases hr : (m.procs.f i).n 2 = 1
      · simp [hr] at hb
      · simp [hr] at hb
    case c_tf => intro _ _; refine ⟨hbd, ?_⟩; rw [hw]; exact ih (i + 1) (by omega)
    all_goals (intro h; simp only [decide_eq_false_iff_not] at h; omega)

theorem turns_at2 (m : Mac) (ok : MacOk m) (h : Rising m) (hc : 0 ≤ m.cur) : ∀ (k i : Nat) (r c l : Int) (val : Int → Option Int) (sz : Nat), i + k = cnt (rdyB m) m.procs.n → Turns m i r c val →
    GoToE Try.prog 4 (fun x => Le x (.bool true)) (headOf Try.f4 1) ⟨86, 1000, [(1, .ptr 0 0), (6, .map 1), (7, .ptr 2 0), (8, .int .i64 r), (9, .int .i64 c), (32, .int .i64 (cnt (rdyB m) m.procs.n)), (33, .int .i64 i)], [(0, .cells 30 m.e), (1, .mapI sz val), (2, .cells 30 { m with cur := c, left := l : Mac }.e)]⟩ := by
  have hcn := cnt_bound (rdyB m) m.procs.n
  have hnb := ok.procs
  intro k
  induction k with
  | zero =>
    intro i r c l val sz hi t
    apply w4_2 m false true { m with cur := c, left := l } m (cnt (rdyB m) m.procs.n) i r c val sz
    case c_f =>
      intro _
      have e : i = cnt (rdyB m) m.procs.n := by omega
      rw [e] at t
      exact turns_at3 m ok h t sz m.procs.n 0 (by omega)
    all_goals (intro h; simp only [decide_eq_true_eq] at h; omega)
  | succ k ih =>
    intro i r c l val sz hi t
    have hw := wrap_succ (i := i) (n := cnt (rdyB m) m.procs.n) (by omega) (by omega)
    obtain ⟨c', hp, hno, hc0, hcase⟩ := turns_succ h hc t (by omega) (x := { m with cur := c, left := 0 }) rfl
    have hs : SpecD Try.prog 23 [.agg { m with cur := c, left := 0 : Mac }.e] (.agg { m with cur := c', left := m.quantum : Mac }.e) := hp ▸ pick_spec { m with cur := c, left := 0 } ok.procs
    have e1 : IntKind.i64.wrap ((val c').getD 0 + 1) = 1 := by rw [hno]; rfl
    have e2 : (setM val c' (IntKind.i64.wrap ((val c').getD 0 + 1)) c').getD 0 = 1 := by rw [e1]; simp [setM]
    apply w4_2 m false true { m with cur := c, left := l } { m with cur := c', left := m.quantum } (cnt (rdyB m) m.procs.n) i r c val sz
    case c_ttt => intro _ _ h; simp at h
    case c_tft => intro _ _ h; simp at h
    case c_ttft =>
      intro _ _ _ h
      simp only [decide_eq_true_eq] at h
      rw [e2] at h; omega
    case c_tfft =>
      intro _ _ _ h
      simp only [decide_eq_true_eq] at h
      rw [e2] at h; omega
    case c_ttff =>
      intro _ h1 _ _
      simp only [decide_eq_true_eq] at h1
      refine ⟨hs, ?_⟩
      rcases hcase with ⟨_, hr0, t'⟩ | ⟨h2, _⟩
      · have hr1 : IntKind.i64.wrap (r + 1) = 1 := by rw [hr0]; rfl
        have := ih (i + 1) 1 c' m.quantum (setM val c' 1) (mapN sz (val c')) (by omega) t'
        rw [hw, hr1]
        simp only [e1]
        exact this
      · omega
    case c_tfff =>
      intro _ h1 _ _
      simp only [decide_eq_false_iff_not] at h1
      refine ⟨hs, ?_⟩
      rcases hcase with ⟨h2, _⟩ | ⟨_, t'⟩
      · omega
      · have := ih (i + 1) r c' m.quantum (setM val c' 1) (mapN sz (val c')) (by omega) t'
        rw [hw]
        simp only [e1]
        exact this
    all_goals (intro h; simp only [decide_eq_false_iff_not] at h; omega)

theorem turns_at1 (m : Mac) (ok : MacOk m) (h : Rising m) (hc : 0 ≤ m.cur) : ∀ (k i : Nat), i + k = m.procs.n →
    GoToE Try.prog 4 (fun x => Le x (.bool true)) (headOf Try.f4 0) ⟨86, 1000, [(1, .ptr 0 0), (3, .int .i64 (cnt (rdyB m) i)), (16, prcs m.procs), (17, .int .i64 ((↑m.procs.n : Int))), (18, .int .i64 i)], [(0, .cells 30 m.e)]⟩ := by
  have hnb := ok.procs
  intro k
  induction k with
  | zero =>
    intro i hi
    apply w4_1 m false true (cnt (rdyB m) i) i
    case c_f =>
      intro _
      rw [show i = m.procs.n by omega]
      exact turns_at2 m ok h hc (cnt (rdyB m) m.procs.n) 0 0 m.cur m.left (fun _ => none) 0 (by omega) (turns_zero m)
    all_goals (intro h; simp only [decide_eq_true_eq] at h; omega)
  | succ k ih =>
    intro i hi
    have hw := wrap_succ (i := i) (n := m.procs.n) (by omega) ok.procs
    have hbd : (0 : Int) ≤ i ∧ (i : Int) < m.procs.n := by omega
    have hcn := cnt_bound (rdyB m) i
    have hw2 := wrap_succ (i := cnt (rdyB m) i) (n := m.procs.n) (by omega) ok.procs
    have := ih (i + 1) (by omega)
    apply w4_1 m false true (cnt (rdyB m) i) i
    case c_tt =>
      intro _ hr
      rw [Int.toNat_natCast] at hr
      refine ⟨hbd, ?_⟩
      have e : cnt (rdyB m) (i + 1) = cnt (rdyB m) i + 1 := by simp only [cnt]; rw [show rdyB m i = true from hr]; simp
      rw [hw, hw2, ← e]; exact this
    case c_tf =>
      intro _ hr
      rw [Int.toNat_natCast] at hr
      refine ⟨hbd, ?_⟩
      have e : cnt (rdyB m) (i + 1) = cnt (rdyB m) i := by simp only [cnt]; rw [show rdyB m i = false from hr]; simp
      rw [hw, ← e]; exact this
    all_goals (intro h; simp only [decide_eq_false_iff_not] at h; omega)

theorem turns_spec (m : Mac) (ok : MacOk m) : SpecD Try.prog 4 [.agg m.e] (.bool true) := by
  refine (specE_of (Try.func4) (by kernel_rfl) (by kernel_rfl) (by kernel_rfl) ?_).le
  obtain ⟨g, hg, h⟩ := great27_spec m ok
  apply w4_0 m g true
  case c_t => intro _; exact ⟨h, fixed_spec, Le.refl _⟩
  case c_f =>
    intro h0
    have hf := fine_of (hg h0)
    exact ⟨h, turns_at1 m ok hf.rising' hf.cur m.procs.n 0 (by omega)⟩
end Go.Hb
