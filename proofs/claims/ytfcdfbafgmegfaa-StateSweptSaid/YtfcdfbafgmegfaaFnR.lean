/-
  THE FUNCTIONS, PART R: layer 25's own 'proc', 'right'; rows of texts one of which ..; layer 17's Plan.
-/
import Derived.Test.YtfcdfbafgmegfaaFnQ
namespace Go.Hb
open Go.RowKit Go.Proofs

def sWhy (m : Mac) (p : Prc) : Bool :=
  if (p.n 2 = 2 ∧ ¬ (1 ≤ p.n 94 ∧ p.n 94 ≤ 5)) ∨ (p.n 2 ≠ 2 ∧ (p.n 94 ≠ 0 ∨ p.n 95 ≠ 0)) ∨ (p.n 2 ≠ 3 ∧ p.n 93 ≠ 0) then false else procFds m p 8 0
def sProc (m : Mac) (p : Prc) : Bool :=
  if ¬ (1 ≤ p.n 0 ∧ p.n 0 ≤ m.next - 1) ∨ (liveB p = false ∧ p.n 2 ≠ 3) ∨ parB m p = false ∨ p.n 3 ≠ 0 then false else sWhy m p

theorem sproc_at (m : Mac) (p : Prc) (hq : m.pipes.n ≤ 140737488355328) : ∀ (k j : Nat), j + k = 8 →
    GoToE Try.prog 135 (fun r => Le r (.bool (procFds m p k j))) (headOf Try.f135 0) ⟨84, 1000, [(2, .ptr 0 0), (6, .bool (p.n (2 : Nat) == (3 : Int))), (67, .agg p.fds), (68, .int .i64 j)], [(0, .cells 30 m.e)]⟩ := by
  intro k
  induction k with
  | zero =>
    intro j hj
    apply w135_1 m p false false false false j false
    case c_f => intro _; exact Le.tt true
    all_goals (intro h; simp only [decide_eq_true_eq] at h; omega)
  | succ k ih =>
    intro j hj
    have hw := wrap_succ (i := j) (n := 8) (by omega) (by omega)
    have hb : (0 : Int) ≤ j ∧ (j : Int) < ((8 : Nat) : Int) := by omega
    have hl : (j : Int).toNat * 3 + 3 ≤ p.fds.length := by simp only [Int.toNat_natCast]; show j * 3 + 3 ≤ 24; omega
    have hp : (V.agg (p.fd (j : Int).toNat) : V) = .agg (List.take 3 (List.drop ((j : Int).toNat * 3) p.fds)) := by simp only [Int.toNat_natCast]; rw [fd_ok _ (by omega)]
    have hs := nfd_spec m (p.n (68 + 3 * j)) (p.n (69 + 3 * j)) (p.n (70 + 3 * j)) hq
    apply w135_1 m p false false false false j (fdF m (p.n (68 + 3 * j)) (p.n (69 + 3 * j)) (p.n (70 + 3 * j)))
    case c_tt =>
      intro _ h
      simp only [Bool.not_eq_true'] at h
      refine ⟨hb, hl, hp, hs, ?_⟩
      simp only [procFds]; rw [if_pos (.inl h)]; exact Le.tt false
    case c_tftt =>
      intro _ h h2 h3
      simp only [beq_iff_eq, bne_iff_ne, Int.toNat_natCast] at h2 h3
      refine ⟨hb, hl, hp, hs, ?_⟩
      simp only [procFds]; rw [if_pos (.inr ⟨h2, h3⟩)]; exact Le.tt false
    case c_tftf =>
      intro _ h h2 h3
      simp only [Bool.not_eq_false', beq_iff_eq, bne_eq_false_iff_eq, Int.toNat_natCast] at h h2 h3
      refine ⟨hb, hl, hp, hs, ?_⟩
      rw [hw]; simp only [procFds]; rw [if_neg (by rw [h, h3]; simp)]; exact ih (j + 1) (by omega)
    case c_tff =>
      intro _ h h2
      simp only [Bool.not_eq_false', beq_eq_false_iff_ne] at h h2
      refine ⟨hb, hl, hp, hs, ?_⟩
      rw [hw]; simp only [procFds]; rw [if_neg (by rw [h]; simp [h2])]; exact ih (j + 1) (by omega)
    case c_f => intro h; simp only [decide_eq_false_iff_not] at h; omega

theorem sproc_spec (m : Mac) (p : Prc) (hn : m.procs.n ≤ 140737488355328) (hq : m.pipes.n ≤ 140737488355328) (hx : 1 ≤ m.next ∧ m.next ≤ 1000000000) : SpecD Try.prog 135 [.agg m.e, .agg p.e] (.bool (sProc m p)) := by
  refine (specE_of (Try.func135) (by kernel_rfl) (by kernel_rfl) (by kernel_rfl) ?_).le
  have hwi := within_spec (p.n 0) 1 (m.next - 1)
  have hwr : IntKind.i64.wrap (m.next - 1) = m.next - 1 := IntWalk.i64_in _ (by omega)
  have hwy := within_spec (p.n 94) 1 5
  have hlv := live_spec p
  have hpa := parent_spec m p hn
  have h11 : GoToE Try.prog 135 (fun r => Le r (.bool (procFds m p 8 0))) (cutOf Try.f135 11) ⟨84, 1000, [(2, .ptr 0 0), (3, .ptr 1 0), (6, .bool (p.n (2 : Nat) == (3 : Int)))], [(0, .cells 30 m.e), (1, .cells 47 p.e)]⟩ :=
    w135_c11 m p false false false false (sproc_at m p hq 8 0 (by omega))
  have h7 : GoToE Try.prog 135 (fun r => Le r (.bool (sWhy m p))) (cutOf Try.f135 7) ⟨84, 1000, [(2, .ptr 0 0), (3, .ptr 1 0), (5, .bool (p.n (2 : Nat) == (2 : Int))), (6, .bool (p.n (2 : Nat) == (3 : Int)))], [(0, .cells 30 m.e), (1, .cells 47 p.e)]⟩ := by
    have hgo : ¬ ((p.n 2 = 2 ∧ ¬ (1 ≤ p.n 94 ∧ p.n 94 ≤ 5)) ∨ (p.n 2 ≠ 2 ∧ (p.n 94 ≠ 0 ∨ p.n 95 ≠ 0)) ∨ (p.n 2 ≠ 3 ∧ p.n 93 ≠ 0)) → sWhy m p = procFds m p 8 0 := fun h => by unfold sWhy; rw [if_neg h]
    have hst : ((p.n 2 = 2 ∧ ¬ (1 ≤ p.n 94 ∧ p.n 94 ≤ 5)) ∨ (p.n 2 ≠ 2 ∧ (p.n 94 ≠ 0 ∨ p.n 95 ≠ 0)) ∨ (p.n 2 ≠ 3 ∧ p.n 93 ≠ 0)) → Le (.tt false) (.bool (sWhy m p)) := fun h => by unfold sWhy; rw [if_pos h]; exact Le.tt false
    apply w135_c7 m p false false false (decide (1 ≤ p.n 94 ∧ p.n 94 ≤ 5))
    all_goals
      intros
      simp only [decide_eq_false_iff_not, decide_eq_true_eq, beq_iff_eq, beq_eq_false_iff_ne, bne_iff_ne, bne_eq_false_iff_eq, Bool.not_eq_true', Bool.not_eq_false'] at *
      first
        | (exfalso; omega)
        | (refine ⟨hwy, hst ?_⟩; omega)
        | (refine hst ?_; omega)
        | (refine ⟨hwy, ?_⟩; rw [hgo (by omega)]; exact h11)
        | (rw [hgo (by omega)]; exact h11)
  have hst : (¬ (1 ≤ p.n 0 ∧ p.n 0 ≤ m.next - 1) ∨ (liveB p = false ∧ p.n 2 ≠ 3) ∨ parB m p = false ∨ p.n 3 ≠ 0) → Le (.tt false) (.bool (sProc m p)) := fun h => by unfold sProc; rw [if_pos h]; exact Le.tt false
  have hgo : ¬ (¬ (1 ≤ p.n 0 ∧ p.n 0 ≤ m.next - 1) ∨ (liveB p = false ∧ p.n 2 ≠ 3) ∨ parB m p = false ∨ p.n 3 ≠ 0) → sProc m p = sWhy m p := fun h => by unfold sProc; rw [if_neg h]
  apply w135_0 m p (decide (1 ≤ p.n 0 ∧ p.n 0 ≤ m.next - 1)) (liveB p) (parB m p) false
  all_goals rw [hwr]
  case c_t => intro h; exact ⟨hwi, hst (.inl (by simp only [Bool.not_eq_true', decide_eq_false_iff_not] at h; exact h))⟩
  case c_ftt => intro _ h h2; exact ⟨hwi, hlv, hst (.inr (.inl ⟨by simpa using h, by simpa using h2⟩))⟩
  case c_ftft => intro _ _ _ h; exact ⟨hwi, hlv, hpa, hst (.inr (.inr (.inl (by simpa using h))))⟩
  case c_ftfft => intro _ _ _ _ h; exact ⟨hwi, hlv, hpa, by omega, hst (.inr (.inr (.inr (by simpa using h))))⟩
  case c_fft => intro _ _ h; exact ⟨hwi, hlv, hpa, hst (.inr (.inr (.inl (by simpa using h))))⟩
  case c_ffft => intro _ _ _ h; exact ⟨hwi, hlv, hpa, by omega, hst (.inr (.inr (.inr (by simpa using h))))⟩
  case c_ftfff =>
    intro h1 h2 h3 h4 h5
    simp only [Bool.not_eq_false', decide_eq_true_eq, Bool.not_eq_true', beq_iff_eq, bne_eq_false_iff_eq] at h1 h2 h3 h4 h5
    refine ⟨hwi, hlv, hpa, by omega, ?_⟩
    rw [hgo (by rintro (h | ⟨_, h⟩ | h | h); exact h h1; exact h h3; rw [h4] at h; cases h; exact h h5)]; exact h7
  case c_ffff =>
    intro h1 h2 h4 h5
    simp only [Bool.not_eq_false', decide_eq_true_eq, bne_eq_false_iff_eq] at h1 h2 h4 h5
    refine ⟨hwi, hlv, hpa, by omega, ?_⟩
    rw [hgo (by rintro (h | ⟨h, _⟩ | h | h); exact h h1; rw [h2] at h; cases h; rw [h4] at h; cases h; exact h h5)]; exact h7

/-- The pipes. -/
def rightK (m : Mac) : Nat → Nat → Bool
  | 0, _ => true
  | k + 1, i => if (0 < i ∧ (m.pipes.f (i - 1)).n ≥ (m.pipes.f i).n) ∨ ¬ (1 ≤ (m.pipes.f i).n ∧ (m.pipes.f i).n ≤ m.newpipe - 1) ∨ (m.pipes.f i).s.size > 64 then false else rightK m k (i + 1)
theorem right_at (m : Mac) (hn : m.pipes.n ≤ 140737488355328) (hx : 1 ≤ m.newpipe ∧ m.newpipe ≤ 1000000000) : ∀ (k i : Nat), i + k = m.pipes.n →
    GoToE Try.prog 89 (fun r => Le r (.bool (rightK m k i))) (headOf Try.f89 0) ⟨43, 1000, [(1, .ptr 0 0), (6, nums m.pipes), (7, .int .i64 ((↑m.pipes.n : Int))), (8, .int .i64 i)], [(0, .cells 30 m.e)]⟩ := by
  have hwr : IntKind.i64.wrap (m.newpipe - 1) = m.newpipe - 1 := IntWalk.i64_in _ (by omega)
  intro k
  induction k with
  | zero =>
    intro i hi
    apply w89_1 m i false
    case c_f => intro _; exact Le.tt true
    all_goals (intro h; simp only [decide_eq_true_eq] at h; omega)
  | succ k ih =>
    intro i hi
    have hw := wrap_succ (i := i) (n := m.pipes.n) (by omega) hn
    have hbd : (0 : Int) ≤ i ∧ (i : Int) < m.pipes.n := by omega
    have hwi := within_spec ((m.pipes.f i).n) 1 (m.newpipe - 1)
    have hst : ((0 < i ∧ (m.pipes.f (i - 1)).n ≥ (m.pipes.f i).n) ∨ ¬ (1 ≤ (m.pipes.f i).n ∧ (m.pipes.f i).n ≤ m.newpipe - 1) ∨ (m.pipes.f i).s.size > 64) → Le (.tt false) (.bool (rightK m (k + 1) i)) := fun h => by
      simp only [rightK]; rw [if_pos h]; exact Le.tt false
    have hgo : ¬ ((0 < i ∧ (m.pipes.f (i - 1)).n ≥ (m.pipes.f i).n) ∨ ¬ (1 ≤ (m.pipes.f i).n ∧ (m.pipes.f i).n ≤ m.newpipe - 1) ∨ (m.pipes.f i).s.size > 64) → rightK m (k + 1) i = rightK m k (i + 1) := fun h => by
      simp only [rightK]; rw [if_neg h]
    apply w89_1 m i (decide (1 ≤ (m.pipes.f i).n ∧ (m.pipes.f i).n ≤ m.newpipe - 1))
    case c_f => intro h; simp only [decide_eq_false_iff_not] at h; omega
    case c_ttt =>
      intro _ h1 h
      simp only [decide_eq_true_eq] at h1 h
      rw [pred_cast (i := i) hn (by omega) (by omega)] at h ⊢
      simp only [Int.toNat_natCast] at h
      exact ⟨hbd, by omega, hst (by omega)⟩
    case c_ttft =>
      intro _ h1 _ h
      simp only [decide_eq_true_eq, Bool.not_eq_true', decide_eq_false_iff_not] at h1 h
      rw [pred_cast (i := i) hn (by omega) (by omega), hwr]
      exact ⟨hbd, by omega, hwi, hst (by omega)⟩
    case c_ttfft =>
      intro _ h1 _ _ h
      simp only [decide_eq_true_eq, Int.toNat_natCast] at h1 h
      rw [pred_cast (i := i) hn (by omega) (by omega), hwr]
      exact ⟨hbd, by omega, hwi, hst (by omega)⟩
    case c_ttfff =>
      intro _ h1 h2 h3 h
      simp only [decide_eq_true_eq, decide_eq_false_iff_not, Bool.not_eq_false'] at h1 h2 h3 h
      rw [pred_cast (i := i) hn (by omega) (by omega)] at h2 ⊢
      rw [hwr]
      simp only [Int.toNat_natCast] at h h2
      refine ⟨hbd, by omega, hwi, ?_⟩
      rw [hw, hgo (by omega)]; exact ih (i + 1) (by omega)
    case c_tft =>
      intro _ h1 h
      simp only [decide_eq_false_iff_not, Bool.not_eq_true'] at h1 h
      rw [hwr]
      exact ⟨hbd, hwi, hst (by omega)⟩
    case c_tfft =>
      intro _ h1 _ h
      simp only [decide_eq_true_eq, Int.toNat_natCast] at h
      rw [hwr]
      exact ⟨hbd, hwi, hst (by omega)⟩
    case c_tfff =>
      intro _ h1 h3 h
      simp only [decide_eq_true_eq, decide_eq_false_iff_not, Bool.not_eq_false', Int.toNat_natCast] at h1 h3 h
      rw [hwr]
      refine ⟨hbd, hwi, ?_⟩
      rw [hw, hgo (by omega)]; exact ih (i + 1) (by omega)
theorem right_spec (m : Mac) (hn : m.pipes.n ≤ 140737488355328) (hx : 1 ≤ m.newpipe ∧ m.newpipe ≤ 1000000000) : SpecD Try.prog 89 [.agg m.e] (.bool (rightK m m.pipes.n 0)) :=
  (specE_of (Try.func89) (by kernel_rfl) (by kernel_rfl) (by kernel_rfl) (w89_0 m (right_at m hn hx m.pipes.n 0 (by omega)))).le

/-- A row of texts one of which ... -/
theorem indexS_at (l : Sq ByteArray) (g : Nat) (q : Nat → Bool) (hn : l.n ≤ 140737488355328) (h : ∀ i, i < l.n → SpecD Try.prog g [.str (l.f i)] (.bool (q i))) : ∀ (k i : Nat), i + k = l.n →
    GoToE Try.prog 134 (Eq (.int .i64 (idxF q k i))) (headOf Try.f134 0) ⟨19, 1000, [(0, strs l), (1, .fn (g) []), (7, .int .i64 (↑l.n)), (8, .int .i64 i)], []⟩ := by
  intro k
  induction k with
  | zero =>
    intro i hi
    apply w134_1 l g i false
    case c_f => intro _; rfl
    all_goals (intro h; simp only [decide_eq_true_eq] at h; omega)
  | succ k ih =>
    intro i hi
    have hw := wrap_succ (i := i) (n := l.n) (by omega) hn
    have hb : (0 : Int) ≤ i ∧ (i : Int) < l.n := by omega
    apply w134_1 l g i (q i)
    case c_f => intro h; simp only [decide_eq_false_iff_not] at h; omega
    case c_tt => intro _ hq; exact ⟨hb, h i (by omega), by simp [idxF, hq]⟩
    case c_tf =>
      intro _ hq
      refine ⟨hb, h i (by omega), ?_⟩
      rw [hw]
      have := ih (i + 1) (by omega)
      simpa [idxF, hq] using this
def someK (q : Nat → Bool) : Nat → Nat → Bool
  | 0, _ => false
  | k + 1, i => q i || someK q k (i + 1)
theorem idxF_some (q : Nat → Bool) : ∀ k i, idxF q k i ≥ 0 ↔ someK q k i = true
  | 0, _ => by simp [idxF, someK]
  | k + 1, i => by
    have := idxF_some q k (i + 1)
    cases h : q i <;> simp [idxF, someK, h, this]
theorem hasS_spec (l : Sq ByteArray) (g : Nat) (q : Nat → Bool) (hn : l.n ≤ 140737488355328) (h : ∀ i, i < l.n → SpecD Try.prog g [.str (l.f i)] (.bool (q i))) : SpecD Try.prog 87 [strs l, .fn g []] (.bool (someK q l.n 0)) := by
  have h1 := (specE_of (Try.func134) (by kernel_rfl) (by kernel_rfl) (by kernel_rfl) (w134_0 l g (indexS_at l g q hn h l.n 0 (by omega)))).eq
  rw [show someK q l.n 0 = decide (idxF q l.n 0 ≥ 0) from Bool.eq_iff_iff.2 (by rw [decide_eq_true_iff]; exact (idxF_some q l.n 0).symm)]
  exact (specE_of (Try.func87) (by kernel_rfl) (by kernel_rfl) (by kernel_rfl) (w87_0 l g (idxF q l.n 0) ⟨h1, rfl⟩)).eq

theorem nplan_spec (x y : Int) : SpecD Try.prog 184 [.int .i64 x, .int .i64 y] (.tup [.agg (planG x y).e, .int .i64 (planE x y)]) := by
  refine (specE_of (Try.func184) (by kernel_rfl) (by kernel_rfl) (by kernel_rfl) ?_).eq
  have hbad : planE x y = 2 → Eq (V.tup [.agg (planG x y).e, .int .i64 (planE x y)]) (.tup [.agg [.int .i64 ((0 : Int)), .int .i64 ((0 : Int)), .int .i64 ((0 : Int)), .int .i64 ((0 : Int)), .int .i64 ((0 : Int)), .int .i64 ((0 : Int))], .int .i64 ((2 : Int))]) := by
    intro h; rw [planG, h]; rfl
  have hw : ¬ (y < 4) → ¬ (y > 64) → IntKind.i64.wrap ((3 : Int) + IntKind.i64.wrap ((IntKind.i64.wrap (y + (1 : Int))).tdiv (2 : Int))) = 3 + (y + 1) / 2 := by
    intro h1 h2
    rw [IntWalk.i64_in (y + 1) (by omega), IntWalk.i64_quo _ _ (by omega), IntWalk.i64_in _ (by omega)]
  apply w184_0 x y
  case c_t => intro h; simp only [decide_eq_true_eq] at h; exact hbad (by simp [planE, h])
  case c_ft => intro _ h; simp only [decide_eq_true_eq] at h; exact hbad (by simp [planE, h])
  case c_fft => intro _ _ h; simp only [decide_eq_true_eq] at h; exact hbad (by simp [planE, h])
  case c_ffft => intro _ _ _ h; simp only [decide_eq_true_eq] at h; exact hbad (by simp [planE, h])
  case c_fffft =>
    intro h1 h2 h3 h4 h5
    simp only [decide_eq_false_iff_not, decide_eq_true_eq] at h1 h2 h3 h4 h5
    rw [hw h3 h4] at h5
    have e : planE x y = 10 := by unfold planE; rw [if_neg (by omega), if_pos h5]
    exact ⟨by omega, by rw [planG, e]; rfl⟩
  case c_fffff =>
    intro h1 h2 h3 h4 h5
    simp only [decide_eq_false_iff_not] at h1 h2 h3 h4 h5
    rw [hw h3 h4] at h5 ⊢
    have e : planE x y = 0 := by unfold planE; rw [if_neg (by omega), if_neg h5]
    exact ⟨by omega, by rw [planG, e]; rfl⟩
end Go.Hb
