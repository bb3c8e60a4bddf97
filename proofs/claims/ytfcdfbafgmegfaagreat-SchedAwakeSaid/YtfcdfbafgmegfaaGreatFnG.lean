/-
  THE FUNCTIONS, PART G: the document's 'process'.
-/
import Derived.Test.YtfcdfbafgmegfaaGreatFnF
namespace Go.Hb
open Go.RowKit Go.Proofs

theorem proc_at2 (m : Mac) (p : Prc) (hq : m.pipes.n ≤ 140737488355328) : ∀ (k j : Nat), j + k = 8 →
    GoToE Tryz.prog 61 (fun r => Le r (.bool (procFds m p k j))) (headOf Tryz.f61 1) ⟨155, 1000, [(2, .ptr 0 0), (5, .bool (p.n (2 : Nat) == (3 : Int))), (138, .agg p.fds), (139, .int .i64 j)], [(0, .cells 30 m.e)]⟩ := by
  intro k
  induction k with
  | zero =>
    intro j hj
    apply w97_2 m p false j false
    case c_f => intro _; exact Le.tt true
    all_goals (intro h; simp only [decide_eq_true_eq] at h; omega)
  | succ k ih =>
    intro j hj
    have hw := wrap_succ (i := j) (n := 8) (by omega) (by omega)
    have hb : (0 : Int) ≤ j ∧ (j : Int) < ((8 : Nat) : Int) := by omega
    have hl : (j : Int).toNat * 3 + 3 ≤ p.fds.length := by simp only [Int.toNat_natCast]; show j * 3 + 3 ≤ 24; omega
    have hp : (V.agg (p.fd (j : Int).toNat) : V) = .agg (List.take 3 (List.drop ((j : Int).toNat * 3) p.fds)) := by simp only [Int.toNat_natCast]; rw [fd_ok _ (by omega)]
    have hs := fd_spec m (p.n (68 + 3 * j)) (p.n (69 + 3 * j)) (p.n (70 + 3 * j)) hq
    apply w97_2 m p false j (fdF m (p.n (68 + 3 * j)) (p.n (69 + 3 * j)) (p.n (70 + 3 * j)))
    case c_tt =>
      intro _ h
      simp only [Bool.not_eq_true'] at h
      refine ⟨hb, hl, hp, hs, ?_⟩
      simp only [procFds]; rw [if_pos (.inl h)]; exact Le.tt false
    case c_tftt =>
      intro _ h h2 h3
      simp only [beq_iff_eq, bne_iff_ne, Int.toNat_natCast] at h2 h3
      refine ⟨hb, hl, hp, hs, ?_⟩
      simp only [procFds]; rw [if_pos (.inr ⟨h2, h3⟩)]; exact Le.tt false
    case c_tftf =>
      intro _ h h2 h3
      simp only [Bool.not_eq_false', beq_iff_eq, bne_eq_false_iff_eq, Int.toNat_natCast] at h h2 h3
      refine ⟨hb, hl, hp, hs, ?_⟩
      rw [hw]; simp only [procFds]; rw [if_neg (by rw [h, h3]; simp)]; exact ih (j + 1) (by omega)
    case c_tff =>
      intro _ h h2
      simp only [Bool.not_eq_false', beq_eq_false_iff_ne] at h h2
      refine ⟨hb, hl, hp, hs, ?_⟩
      rw [hw]; simp only [procFds]; rw [if_neg (by rw [h]; simp [h2])]; exact ih (j + 1) (by omega)
    case c_f => intro h; simp only [decide_eq_false_iff_not] at h; omega

theorem proc_at1 (m : Mac) (p : Prc) (hn : m.procs.n ≤ 140737488355328) (hq : m.pipes.n ≤ 140737488355328) : ∀ (k j : Nat), j + k = 16 →
    GoToE Tryz.prog 61 (fun r => Le r (.bool (procPages m p k j))) (headOf Tryz.f61 0) ⟨155, 1000, [(2, .ptr 0 0), (3, .ptr 1 0), (5, .bool (p.n (2 : Nat) == (3 : Int))), (95, .agg p.space), (96, .int .i64 j)], [(0, .cells 30 m.e), (1, .cells 51 p.e)]⟩ := by
  intro k
  induction k with
  | zero =>
    intro j hj
    apply w97_1 m p false j 0
    case c_f => intro _; exact proc_at2 m p hq 8 0 (by omega)
    all_goals (intro h; simp only [decide_eq_true_eq] at h; omega)
  | succ k ih =>
    intro j hj
    have hw := wrap_succ (i := j) (n := 16) (by omega) (by omega)
    have hb : (0 : Int) ≤ j ∧ (j : Int) < ((16 : Nat) : Int) := by omega
    have hl : (j : Int).toNat * 3 + 3 ≤ p.space.length := by simp only [Int.toNat_natCast]; show j * 3 + 3 ≤ 48; omega
    have hp : (V.agg (p.pte (j : Int).toNat) : V) = .agg (List.take 3 (List.drop ((j : Int).toNat * 3) p.space)) := by simp only [Int.toNat_natCast]; rw [pte_ok _ (by omega)]
    have hr := pteNone_run p j
    have hu := users_spec m (p.n (22 + 3 * j)) hn
    have hstop : pageBad m p j → Le (.tt false) (.bool (procPages m p (k + 1) j)) := by intro h; simp only [procPages]; rw [if_pos h]; exact Le.tt false
    have hgo : ¬ pageBad m p j → GoToE Tryz.prog 61 (fun r => Le r (.bool (procPages m p (k + 1) j))) (headOf Tryz.f61 0) ⟨155, 1000, [(2, .ptr 0 0), (3, .ptr 1 0), (5, .bool (p.n (2 : Nat) == (3 : Int))), (95, .agg p.space), (96, .int .i64 (IntKind.i64.wrap ((j : Int) + 1)))], [(0, .cells 30 m.e), (1, .cells 51 p.e)]⟩ := by
      intro h; rw [hw]; simp only [procPages]; rw [if_neg h]; exact ih (j + 1) (by omega)
    apply w97_1 m p false j (usersF m (p.n (22 + 3 * j)))
    case c_f => intro h; simp only [decide_eq_false_iff_not] at h; omega
    all_goals
      intros
      simp only [Int.toNat_natCast, decide_eq_true_eq, decide_eq_false_iff_not, beq_iff_eq, beq_eq_false_iff_ne, bne_iff_ne, bne_eq_false_iff_eq, Bool.not_eq_true', Bool.not_eq_false'] at *
      first
        | (exact ⟨hb, hl, hp, hr, hstop (by simp_all [pageBad])⟩)
        | (exact ⟨hb, hl, hp, hr, hu, hstop (by simp_all [pageBad])⟩)
        | (exact ⟨hb, hl, hp, hr, hgo (by simp_all [pageBad])⟩)
        | (exact ⟨hb, hl, hp, hr, hu, hgo (by simp_all [pageBad])⟩)
        | (exfalso; simp_all)

theorem proc_spec (m : Mac) (p : Prc) (hn : m.procs.n ≤ 140737488355328) (hq : m.pipes.n ≤ 140737488355328) : SpecD Tryz.prog 61 [.agg m.e, .agg p.e] (.bool (procF m p)) := by
  refine (specE_of (Tryz.func61) (by kernel_rfl) (by kernel_rfl) (by kernel_rfl) ?_).le
  have hlv := lives_spec m (p.n 1) hn
  have h9 : GoToE Tryz.prog 61 (fun r => Le r (.bool (procPages m p 16 0))) (cutOf Tryz.f61 9) ⟨155, 1000, [(2, .ptr 0 0), (3, .ptr 1 0), (5, .bool (p.n (2 : Nat) == (3 : Int)))], [(0, .cells 30 m.e), (1, .cells 51 p.e)]⟩ :=
    w97_c9 m p false (proc_at1 m p hn hq 16 0 (by omega))
  have h7 : GoToE Tryz.prog 61 (fun r => Le r (.bool (procWhy m p))) (cutOf Tryz.f61 7) ⟨155, 1000, [(2, .ptr 0 0), (3, .ptr 1 0), (5, .bool (p.n (2 : Nat) == (3 : Int))), (6, .bool (p.n (2 : Nat) == (2 : Int)))], [(0, .cells 30 m.e), (1, .cells 51 p.e)]⟩ := by
    apply w97_c7 m p false
    all_goals
      intros
      simp only [decide_eq_true_eq, decide_eq_false_iff_not, beq_iff_eq, beq_eq_false_iff_ne, bne_iff_ne, bne_eq_false_iff_eq, Bool.not_eq_true', Bool.not_eq_false'] at *
      first
        | (rw [show procWhy m p = false by unfold procWhy; rw [if_pos (by simp_all)]]; exact Le.tt false)
        | (rw [show procWhy m p = procPages m p 16 0 by unfold procWhy; rw [if_neg (by simp_all)]]; exact h9)
        | (rw [show procWhy m p = procPages m p 16 0 by unfold procWhy; rw [if_neg (by simp_all <;> omega)]]; exact h9)
  have h5 : GoToE Tryz.prog 61 (fun r => Le r (.bool (procPar m p))) (cutOf Tryz.f61 5) ⟨155, 1000, [(2, .ptr 0 0), (3, .ptr 1 0), (5, .bool (p.n (2 : Nat) == (3 : Int))), (6, .bool (p.n (2 : Nat) == (2 : Int)))], [(0, .cells 30 m.e), (1, .cells 51 p.e)]⟩ := by
    apply w97_c5 m p (livesF m (p.n 1))
    all_goals
      intros
      refine ⟨hlv, ?_⟩
      simp only [beq_iff_eq, beq_eq_false_iff_ne, bne_iff_ne, bne_eq_false_iff_eq, Bool.not_eq_true', Bool.not_eq_false'] at *
      first
        | (rw [show procPar m p = false by unfold procPar; rw [if_pos (by simp_all)]]; exact Le.tt false)
        | (rw [show procPar m p = procWhy m p by unfold procPar; rw [if_neg (by simp_all)]]; exact h7)
  apply w97_0 m p false
  all_goals
    intros
    simp only [decide_eq_true_eq, decide_eq_false_iff_not, beq_iff_eq, beq_eq_false_iff_ne, bne_iff_ne, bne_eq_false_iff_eq, Bool.not_eq_true', Bool.not_eq_false'] at *
    first
      | (rw [show procF m p = false by unfold procF; rw [if_pos (by simp_all)]]; exact Le.tt false)
      | (refine ⟨by omega, ?_⟩; rw [show procF m p = false by unfold procF; rw [if_pos (by simp_all)]]; exact Le.tt false)
      | (refine ⟨by omega, ?_⟩; rw [show procF m p = procPar m p by unfold procF; rw [if_neg (by omega)]]; exact h5)
end Go.Hb
