/-
  THE FUNCTIONS, PART Q: layer 25's own small ones: who lives, whose parent, which pipe, which open file, a process's numbers, pipes, where things are on a volume.
-/
import Derived.Test.YtfcdfbafgmegfaaFnH
import Derived.Test.YtfcdfbafgmegfaaWkZ
namespace Go.Hb
open Go.RowKit Go.Proofs
set_option maxRecDepth 100000

theorem within_spec (x y z : Int) : SpecD Try.prog 86 [.int .i64 x, .int .i64 y, .int .i64 z] (.bool (decide (y ≤ x ∧ x ≤ z))) := by
  refine (specE_of (Try.func86) (by kernel_rfl) (by kernel_rfl) (by kernel_rfl) ?_).le
  apply w86_0 x y z
  case c_t => intro h; simp only [decide_eq_true_eq] at h; exact Le.of_eq (congrArg V.bool (by simp only [decide_eq_decide]; omega))
  case c_f => intro h; simp only [decide_eq_false_iff_not] at h; rw [show decide (y ≤ x ∧ x ≤ z) = false by simp only [decide_eq_false_iff_not]; omega]; exact Le.tt false

def liveB (p : Prc) : Bool := p.n 2 == 1 || p.n 2 == 2
theorem live_spec (p : Prc) : SpecD Try.prog 177 [.agg p.e] (.bool (liveB p)) := by
  refine (specE_of (Try.func177) (by kernel_rfl) (by kernel_rfl) (by kernel_rfl) ?_).le
  apply w177_0 p
  case c_t => intro h; rw [show liveB p = true by simp only [liveB, h]; rfl]; exact Le.tt true
  case c_f => intro h; simp only [liveB, h]; exact Le.refl _

theorem parent1_spec (q p : Prc) : SpecD Try.prog 202 [.agg q.e, .rfp p.e 0] (.bool (q.n 0 == p.n 1 && liveB q)) := by
  refine (specE_of (Try.func202) (by kernel_rfl) (by kernel_rfl) (by kernel_rfl) ?_).le
  apply w202_0 q p (liveB q)
  case c_t => intro h; rw [h]; exact ⟨live_spec q, Le.refl _⟩
  case c_f => intro h; rw [h]; exact Le.tt false

theorem has_spec (l : Sq Prc) (g : Nat) (caps : List V) (q : Nat → Bool) (hn : l.n ≤ 140737488355328) (h : ∀ i, i < l.n → SpecD Try.prog g [.agg (l.f i).e, .rfp caps 0] (.bool (q i))) :
    SpecD Try.prog 201 [prcs l, .fn g [.rfp caps 0]] (.bool (decide (idxF q l.n 0 ≥ 0))) :=
  (specE_of (Try.func201) (by kernel_rfl) (by kernel_rfl) (by kernel_rfl) (w201_0 l g caps (idxF q l.n 0) ⟨index_spec l g caps q hn h, rfl⟩)).eq

def livesQ (m : Mac) (pid : Int) (i : Nat) : Bool := (m.procs.f i).n 0 == pid && liveB (m.procs.f i)
theorem idxF_lives (m : Mac) (pid : Int) : ∀ k i, idxF (livesQ m pid) k i ≥ 0 ↔ livesK m pid k i = true
  | 0, _ => by simp [idxF, livesK]
  | k + 1, i => by
    by_cases h : livesQ m pid i = true
    · have e1 : idxF (livesQ m pid) (k + 1) i = i := by unfold idxF; rw [if_pos h]
      have e2 : livesK m pid (k + 1) i = true := by unfold livesK; rw [show ((m.procs.f i).n 0 == pid && ((m.procs.f i).n 2 == 1 || (m.procs.f i).n 2 == 2)) = true from h]; rfl
      rw [e1, e2]; simp
    · have e1 : idxF (livesQ m pid) (k + 1) i = idxF (livesQ m pid) k (i + 1) := by rw [idxF]; rw [if_neg h]
      have e2 : livesK m pid (k + 1) i = livesK m pid k (i + 1) := by rw [livesK]; rw [show ((m.procs.f i).n 0 == pid && ((m.procs.f i).n 2 == 1 || (m.procs.f i).n 2 == 2)) = false from Bool.eq_false_iff.2 h]; rfl
      rw [e1, e2]; exact idxF_lives m pid k (i + 1)

def parB (m : Mac) (p : Prc) : Bool := (liveB p && p.n 1 == 0) || livesF m (p.n 1)
theorem parent_spec (m : Mac) (p : Prc) (hn : m.procs.n ≤ 140737488355328) : SpecD Try.prog 178 [.agg m.e, .agg p.e] (.bool (parB m p)) := by
  have hh := has_spec m.procs 202 p.e (livesQ m (p.n 1)) hn fun i _ => parent1_spec (m.procs.f i) p
  rw [show decide (idxF (livesQ m (p.n 1)) m.procs.n 0 ≥ 0) = livesF m (p.n 1) from Bool.eq_iff_iff.2 (by rw [decide_eq_true_iff]; exact idxF_lives m (p.n 1) m.procs.n 0)] at hh
  refine (specE_of (Try.func178) (by kernel_rfl) (by kernel_rfl) (by kernel_rfl) ?_).le
  apply w178_0 m p (liveB p) (livesF m (p.n 1))
  case c_tt => intro h1 h2; rw [show parB m p = true by simp only [parB, h1, h2]; rfl]; exact ⟨live_spec p, Le.tt true⟩
  case c_tf => intro h1 h2; simp only [parB, h2, Bool.and_false, Bool.false_or]; exact ⟨live_spec p, hh, Le.refl _⟩
  case c_f => intro h1; simp only [parB, h1, Bool.false_and, Bool.false_or]; exact ⟨h1 ▸ live_spec p, hh, Le.refl _⟩

theorem indexY_at (l : Sq Num) (g : Nat) (caps : List V) (q : Nat → Bool) (hn : l.n ≤ 140737488355328) (h : ∀ i, i < l.n → SpecD Try.prog g [.agg (l.f i).e, .rfp caps 0] (.bool (q i))) : ∀ (k i : Nat), i + k = l.n →
    GoToE Try.prog 129 (Eq (.int .i64 (idxF q k i))) (headOf Try.f129 0) ⟨19, 1000, [(0, nums l), (1, .fn (g) [.rfp (caps) 0]), (7, .int .i64 (↑l.n)), (8, .int .i64 i)], []⟩ := by
  intro k
  induction k with
  | zero =>
    intro i hi
    apply y129_1 l g caps i false
    case c_f => intro _; rfl
    all_goals (intro h; simp only [decide_eq_true_eq] at h; omega)
  | succ k ih =>
    intro i hi
    have hw := wrap_succ (i := i) (n := l.n) (by omega) hn
    have hb : (0 : Int) ≤ i ∧ (i : Int) < l.n := by omega
    apply y129_1 l g caps i (q i)
    case c_f => intro h; simp only [decide_eq_false_iff_not] at h; omega
    case c_tt => intro _ hq; exact ⟨hb, h i (by omega), by simp [idxF, hq]⟩
    case c_tf =>
      intro _ hq
      refine ⟨hb, h i (by omega), ?_⟩
      rw [hw]
      have := ih (i + 1) (by omega)
      simpa [idxF, hq] using this
theorem indexY_spec (l : Sq Num) (g : Nat) (caps : List V) (q : Nat → Bool) (hn : l.n ≤ 140737488355328) (h : ∀ i, i < l.n → SpecD Try.prog g [.agg (l.f i).e, .rfp caps 0] (.bool (q i))) :
    SpecD Try.prog 129 [nums l, .fn g [.rfp caps 0]] (.int .i64 (idxF q l.n 0)) :=
  (specE_of (Try.func129) (by kernel_rfl) (by kernel_rfl) (by kernel_rfl) (y129_0 l g caps (indexY_at l g caps q hn h l.n 0 (by omega)))).eq

/-- The own code's pipe of a number. -/
theorem npipe1_spec (p : Num) (n : Int) : SpecD Try.prog 130 [.agg p.e, .rfp [.int .i64 n] 0] (.bool (p.n == n)) :=
  (specE_of (Try.func130) (by kernel_rfl) (by kernel_rfl) (by kernel_rfl) (w130_0 p n rfl)).eq
def pipeI (m : Mac) (y : Int) : Int := idxF (fun i => (m.pipes.f i).n == y) m.pipes.n 0
theorem pipeI_spec (m : Mac) (y : Int) (hn : m.pipes.n ≤ 140737488355328) : SpecD Try.prog 75 [.agg m.e, .int .i64 y] (.int .i64 (pipeI m y)) :=
  (specE_of (Try.func75) (by kernel_rfl) (by kernel_rfl) (by kernel_rfl) (w75_0 m y (pipeI m y) ⟨indexY_spec m.pipes 130 _ _ hn fun i _ => npipe1_spec _ y, rfl⟩)).eq
theorem pipeI_ok (l : Sq Num) (y : Int) : ∀ k i, (idxF (fun i => (l.f i).n == y) k i = -1 ∧ pipeK l y k i = (num0, false)) ∨ ∃ j : Nat, idxF (fun i => (l.f i).n == y) k i = j ∧ i ≤ j ∧ j < i + k ∧ pipeK l y k i = (l.f j, true)
  | 0, _ => .inl ⟨rfl, rfl⟩
  | k + 1, i => by
    simp only [idxF, pipeK]
    by_cases h : (l.f i).n = y
    · rw [if_pos h, if_pos (by simpa using h)]; exact .inr ⟨i, rfl, by omega, by omega, rfl⟩
    · rw [if_neg h, if_neg (by simpa using h)]
      rcases pipeI_ok l y k (i + 1) with h1 | ⟨j, h1, h2, h3, h4⟩
      · exact .inl h1
      · exact .inr ⟨j, h1, by omega, by omega, h4⟩
theorem npipe_spec (m : Mac) (y : Int) (hn : m.pipes.n ≤ 140737488355328) : SpecD Try.prog 34 [.agg m.e, .int .i64 y] (.tup [.agg (pipeF m y).1.e, .bool (pipeF m y).2]) := by
  have hs := pipeI_spec m y hn
  refine (specE_of (Try.func34) (by kernel_rfl) (by kernel_rfl) (by kernel_rfl) ?_).le
  apply w34_0 m y (pipeI m y)
  all_goals
    intro h
    rcases pipeI_ok m.pipes y m.pipes.n 0 with ⟨h1, h2⟩ | ⟨j, h1, h2, h3, h4⟩
  · refine ⟨hs, ?_⟩
    rw [show pipeF m y = (num0, false) from h2]
    exact .tup (.cons (.refl _) (.cons (Le.tt false) .nil))
  · have h1' : pipeI m y = j := h1
    simp only [decide_eq_true_eq] at h; omega
  · have h1' : pipeI m y = -1 := h1
    simp only [decide_eq_false_iff_not] at h; omega
  · have h1' : pipeI m y = j := h1
    refine ⟨hs, by omega, ?_⟩
    rw [show pipeF m y = (m.pipes.f j, true) from h4, h1']
    exact .tup (.cons (.refl _) (.cons (Le.tt true) .nil))

theorem fdF_low (m : Mac) {k : Int} (n s : Int) (h : k = 0 ∨ k = 1 ∨ k = 2) : fdF m k n s = (n == 0 && s == 0) := by unfold fdF; rw [if_pos h]
theorem fdF_file (m : Mac) (n s : Int) : fdF m 3 n s = (decide (1 ≤ n ∧ n ≤ 64) && decide (0 ≤ s ∧ s ≤ 8960)) := by
  unfold fdF
  rw [if_neg (by omega), if_pos rfl]
  by_cases h1 : 1 ≤ n <;> by_cases h2 : n ≤ 64 <;> simp [h1, h2]
theorem fdF_pipe (m : Mac) {k : Int} (n s : Int) (h : k = 4 ∨ k = 5) : fdF m k n s = (s == 0 && (pipeF m n).2) := by unfold fdF; rw [if_neg (by omega), if_neg (by omega), if_pos h]
theorem fdF_else (m : Mac) {k : Int} (n s : Int) (h : ¬ (k = 0 ∨ k = 1 ∨ k = 2 ∨ k = 3 ∨ k = 4 ∨ k = 5)) : fdF m k n s = false := by unfold fdF; rw [if_neg (by omega), if_neg (by omega), if_neg (by omega)]
theorem nfd_spec (m : Mac) (k n s : Int) (hn : m.pipes.n ≤ 140737488355328) : SpecD Try.prog 179 [.agg m.e, .agg [.int .i64 k, .int .i64 n, .int .i64 s]] (.bool (fdF m k n s)) := by
  refine (specE_of (Try.func179) (by kernel_rfl) (by kernel_rfl) (by kernel_rfl) ?_).le
  have h1 := within_spec n 1 64
  have h2 := within_spec s 0 8960
  have h3 := npipe_spec m n hn
  have low : ∀ h : k = 0 ∨ k = 1 ∨ k = 2, (n == 0) = true → Le (.bool (s == 0)) (.bool (fdF m k n s)) := fun h hn => by rw [fdF_low m n s h, hn]; exact Le.refl _
  have lowf : ∀ h : k = 0 ∨ k = 1 ∨ k = 2, (n == 0) = false → Le (.tt false) (.bool (fdF m k n s)) := fun h hn => by rw [fdF_low m n s h, hn]; exact Le.tt false
  have pip : ∀ h : k = 4 ∨ k = 5, (pipeF m n).2 = true → Le (.bool (s == 0)) (.bool (fdF m k n s)) := fun h hn => by rw [fdF_pipe m n s h, hn, Bool.and_true]; exact Le.refl _
  have pipf : ∀ h : k = 4 ∨ k = 5, (pipeF m n).2 = false → Le (.tt false) (.bool (fdF m k n s)) := fun h hn => by rw [fdF_pipe m n s h, hn, Bool.and_false]; exact Le.tt false
  apply w179_0 m k n s (pipeF m n).1 (pipeF m n).2 (decide (1 ≤ n ∧ n ≤ 64)) (decide (0 ≤ s ∧ s ≤ 8960))
  case c_tt => intro h h4; exact low (.inl (eq_of_beq h)) h4
  case c_tf => intro h h4; exact lowf (.inl (eq_of_beq h)) h4
  case c_ftt => intro _ h h4; exact low (.inr (.inl (eq_of_beq h))) h4
  case c_ftf => intro _ h h4; exact lowf (.inr (.inl (eq_of_beq h))) h4
  case c_fftt => intro _ _ h h4; exact low (.inr (.inr (eq_of_beq h))) h4
  case c_fftf => intro _ _ h h4; exact lowf (.inr (.inr (eq_of_beq h))) h4
  case c_ffftt => intro _ _ _ h h4; refine ⟨h1, h2, ?_⟩; rw [eq_of_beq h, fdF_file, h4, Bool.true_and]; exact Le.refl _
  case c_ffftf => intro _ _ _ h h4; refine ⟨h1, ?_⟩; rw [eq_of_beq h, fdF_file, h4, Bool.false_and]; exact Le.tt false
  case c_fffftt => intro _ _ _ _ h h4; exact ⟨h3, pip (.inl (eq_of_beq h)) h4⟩
  case c_fffftf => intro _ _ _ _ h h4; exact ⟨h3, pipf (.inl (eq_of_beq h)) h4⟩
  case c_ffffftt => intro _ _ _ _ _ h h4; exact ⟨h3, pip (.inr (eq_of_beq h)) h4⟩
  case c_ffffftf => intro _ _ _ _ _ h h4; exact ⟨h3, pipf (.inr (eq_of_beq h)) h4⟩
  case c_ffffff =>
    intro a b c d e f
    simp only [beq_eq_false_iff_ne] at a b c d e f
    rw [fdF_else m n s (by omega)]; exact Le.tt false
end Go.Hb
