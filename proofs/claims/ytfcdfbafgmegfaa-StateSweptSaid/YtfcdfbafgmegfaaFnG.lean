/-
  THE FUNCTIONS, PART F: the document's users of a frame, open files, processes.
-/
import Derived.Test.YtfcdfbafgmegfaaFnE
namespace Go.Hb
open Go.RowKit Go.Proofs

def pageHas (p : Prc) (y : Int) (j : Nat) : Bool := p.b (20 + 3 * j) && p.n (22 + 3 * j) == y
def pagesN (p : Prc) (y : Int) : Nat → Nat → Nat
  | 0, _ => 0
  | k + 1, j => (if pageHas p y j = true then 1 else 0) + pagesN p y k (j + 1)
def usersK (m : Mac) (y : Int) : Nat → Nat → Nat
  | 0, _ => 0
  | k + 1, i => pagesN (m.procs.f i) y 16 0 + usersK m y k (i + 1)
def usersF (m : Mac) (y : Int) : Nat := usersK m y m.procs.n 0

theorem users_in (m : Mac) (y : Int) (hn : m.procs.n ≤ 140737488355328) (i : Nat) (hi : i < m.procs.n) (r : Nat → Int)
    (hout : ∀ n : Nat, n ≤ 16 * (i + 1) → GoToE Try.prog 99 (Eq (.int .i64 (r n))) (headOf Try.f99 0) ⟨35, 1000, [(1, .int .i64 (y)), (5, .int .i64 n), (11, prcs m.procs), (12, .int .i64 ((↑m.procs.n : Int))), (13, .int .i64 ((i + 1 : Nat) : Int))], []⟩) : ∀ (k j n : Nat), j + k = 16 → n ≤ 16 * i + j →
    GoToE Try.prog 99 (Eq (.int .i64 (r (n + pagesN (m.procs.f i) y k j)))) (headOf Try.f99 1) ⟨35, 1000, [(1, .int .i64 (y)), (5, .int .i64 n), (11, prcs m.procs), (12, .int .i64 ((↑m.procs.n : Int))), (13, .int .i64 i), (18, .agg (m.procs.f i).space), (19, .int .i64 j)], []⟩ := by
  have hwi := wrap_succ (i := i) (n := m.procs.n) hi hn
  intro k
  induction k with
  | zero =>
    intro j n hj hle
    apply w99_2 m y n i j (m.procs.f i)
    case c_f => intro _; rw [hwi]; exact hout n (by omega)
    all_goals (intro h; simp only [decide_eq_true_eq] at h; omega)
  | succ k ih =>
    intro j n hj hle
    have hw := wrap_succ (i := j) (n := 16) (by omega) (by omega)
    have hwn : IntKind.i64.wrap ((n : Int) + 1) = ((n + 1 : Nat) : Int) := by rw [IntWalk.i64_in _ (by omega)]; rfl
    have hb : (0 : Int) ≤ j ∧ (j : Int) < ((16 : Nat) : Int) := by omega
    have hl : (j : Int).toNat * 3 + 3 ≤ (m.procs.f i).space.length := by simp only [Int.toNat_natCast]; show j * 3 + 3 ≤ 48; omega
    have hp : (V.agg ((m.procs.f i).pte (j : Int).toNat) : V) = .agg (List.take 3 (List.drop ((j : Int).toNat * 3) (m.procs.f i).space)) := by simp only [Int.toNat_natCast]; rw [pte_ok _ (by omega)]
    apply w99_2 m y n i j (m.procs.f i)
    case c_ttt =>
      intro _ h1 h2
      simp only [Int.toNat_natCast] at h1 h2
      refine ⟨hb, hl, hp, ?_⟩
      rw [hw, hwn]
      have h3 : pageHas (m.procs.f i) y j = true := by simp only [pageHas, h1, h2]; rfl
      have := ih (j + 1) (n + 1) (by omega) (by omega)
      simp only [pagesN, h3, if_true]
      rw [← Nat.add_assoc]; exact this
    case c_ttf =>
      intro _ h1 h2
      simp only [Int.toNat_natCast] at h1 h2
      refine ⟨hb, hl, hp, ?_⟩
      rw [hw]
      have h3 : pageHas (m.procs.f i) y j = false := by simp only [pageHas, h1, h2]; rfl
      have := ih (j + 1) n (by omega) (by omega)
      simp only [pagesN, h3, Bool.false_eq_true, if_false, Nat.zero_add]
      exact this
    case c_tf =>
      intro _ h1
      simp only [Int.toNat_natCast] at h1
      refine ⟨hb, hl, hp, ?_⟩
      rw [hw]
      have h3 : pageHas (m.procs.f i) y j = false := by simp only [pageHas, h1]; rfl
      have := ih (j + 1) n (by omega) (by omega)
      simp only [pagesN, h3, Bool.false_eq_true, if_false, Nat.zero_add]
      exact this
    case c_f => intro h; simp only [decide_eq_false_iff_not] at h; omega

theorem users_at (m : Mac) (y : Int) (hn : m.procs.n ≤ 140737488355328) : ∀ (k i n : Nat), i + k = m.procs.n → n ≤ 16 * i →
    GoToE Try.prog 99 (Eq (.int .i64 ((n + usersK m y k i : Nat) : Int))) (headOf Try.f99 0) ⟨35, 1000, [(1, .int .i64 (y)), (5, .int .i64 n), (11, prcs m.procs), (12, .int .i64 ((↑m.procs.n : Int))), (13, .int .i64 i)], []⟩ := by
  intro k
  induction k with
  | zero =>
    intro i n hi hle
    apply w99_1 m y n i
    case c_f => intro _; rfl
    all_goals (intro h; simp only [decide_eq_true_eq] at h; omega)
  | succ k ih =>
    intro i n hi hle
    apply w99_1 m y n i
    case c_t =>
      intro _
      refine ⟨by omega, ?_⟩
      have := users_in m y hn i (by omega) (fun q => ((q + usersK m y k (i + 1) : Nat) : Int)) (fun q hq => ih (i + 1) q (by omega) hq) 16 0 n (by omega) (by omega)
      simp only [usersK]
      rw [← Nat.add_assoc]; exact this
    case c_f => intro h; simp only [decide_eq_false_iff_not] at h; omega

theorem users_spec (m : Mac) (y : Int) (hn : m.procs.n ≤ 140737488355328) : SpecD Try.prog 99 [.agg m.e, .int .i64 y] (.int .i64 (usersF m y)) := by
  refine (specE_of (Try.func99) (by kernel_rfl) (by kernel_rfl) (by kernel_rfl) (w99_0 m y ?_)).eq
  have := users_at m y hn m.procs.n 0 0 (by omega) (by omega)
  rw [Nat.zero_add] at this; exact this

/-- May an open file be? -/
def fdF (m : Mac) (k n s : Int) : Bool :=
  if k = 0 ∨ k = 1 ∨ k = 2 then n == 0 && s == 0
  else if k = 3 then decide (n ≥ 1) && (decide (n ≤ 64) && (decide (s ≥ 0) && decide (s ≤ 8960)))
  else if k = 4 ∨ k = 5 then s == 0 && (pipeF m n).2
  else false

theorem fd_spec (m : Mac) (k n s : Int) (hn : m.pipes.n ≤ 140737488355328) : SpecD Try.prog 147 [.agg m.e, .agg [.int .i64 k, .int .i64 n, .int .i64 s]] (.bool (fdF m k n s)) := by
  refine (specE_of (Try.func147) (by kernel_rfl) (by kernel_rfl) (by kernel_rfl) ?_).le
  apply w147_0 m k n s (pipeF m n).1 (pipeF m n).2
  all_goals
    intros
    refine ⟨pipe_spec m n hn, ?_⟩
    simp only [decide_eq_true_eq, decide_eq_false_iff_not, beq_iff_eq, beq_eq_false_iff_ne] at *
    first
      | (exact Le.of_eq (congrArg V.bool (by simp [fdF, *])))
      | (rw [show fdF m k n s = false by simp [fdF, *]]; exact Le.tt false)
      | (rw [show fdF m k n s = false by simp [fdF, *] <;> omega]; exact Le.tt false)

theorem pteNone_run (p : Prc) (j : Nat) : EqRun Try.prog 40 (p.pte j) pte0 (pteNone p j) := eqRun_of (by kernel_rfl) (by kernel_rfl)

/-- May a process be? -/
def procFds (m : Mac) (p : Prc) : Nat → Nat → Bool
  | 0, _ => true
  | k + 1, j => if fdF m (p.n (68 + 3 * j)) (p.n (69 + 3 * j)) (p.n (70 + 3 * j)) = false ∨ (p.n 2 = 3 ∧ p.n (68 + 3 * j) ≠ 0) then false else procFds m p k (j + 1)
def pageBad (m : Mac) (p : Prc) (j : Nat) : Prop :=
  (p.b (20 + 3 * j) = false ∧ pteNone p j = false) ∨ (p.b (20 + 3 * j) = true ∧ (p.n 2 = 3 ∨ p.n (22 + 3 * j) < 0 ∨ p.n (22 + 3 * j) ≥ m.frames.n ∨ (usersF m (p.n (22 + 3 * j)) : Int) ≠ 1))
instance (m : Mac) (p : Prc) (j : Nat) : Decidable (pageBad m p j) := by unfold pageBad; infer_instance
def procPages (m : Mac) (p : Prc) : Nat → Nat → Bool
  | 0, _ => procFds m p 8 0
  | k + 1, j => if pageBad m p j then false else procPages m p k (j + 1)
def procWhy (m : Mac) (p : Prc) : Bool :=
  if (p.n 2 == 2) ≠ (p.n 94 != 0) ∨ p.n 94 < 0 ∨ p.n 94 > 5 ∨ (p.n 2 ≠ 2 ∧ p.n 95 ≠ 0) ∨ (p.n 2 ≠ 3 ∧ p.n 93 ≠ 0) then false else procPages m p 16 0
def procPar (m : Mac) (p : Prc) : Bool :=
  if livesF m (p.n 1) = false ∧ (p.n 2 = 3 ∨ p.n 1 ≠ 0) then false else procWhy m p
def procF (m : Mac) (p : Prc) : Bool :=
  if p.n 0 < 1 ∨ p.n 0 ≥ m.next ∨ (p.n 2 ≠ 1 ∧ p.n 2 ≠ 2 ∧ p.n 2 ≠ 3) ∨ p.n 3 ≠ 0 then false else procPar m p
end Go.Hb
/-
  THE FUNCTIONS, PART G: the document's 'process'.
-/
namespace Go.Hb
open Go.RowKit Go.Proofs

theorem proc_at2 (m : Mac) (p : Prc) (hq : m.pipes.n ≤ 140737488355328) : ∀ (k j : Nat), j + k = 8 →
    GoToE Try.prog 97 (fun r => Le r (.bool (procFds m p k j))) (headOf Try.f97 1) ⟨155, 1000, [(2, .ptr 0 0), (5, .bool (p.n (2 : Nat) == (3 : Int))), (138, .agg p.fds), (139, .int .i64 j)], [(0, .cells 30 m.e)]⟩ := by
  intro k
  induction k with
  | zero =>
    intro j hj
    apply w97_2 m p false j false
    case c_f => intro _; exact Le.tt true
    all_goals (intro h; simp only [decide_eq_true_eq] at h; omega)
  | succ k ih =>
    intro j hj
    have hw := wrap_succ (i := j) (n := 8) (by omega) (by omega)
    have hb : (0 : Int) ≤ j ∧ (j : Int) < ((8 : Nat) : Int) := by omega
    have hl : (j : Int).toNat * 3 + 3 ≤ p.fds.length := by simp only [Int.toNat_natCast]; show j * 3 + 3 ≤ 24; omega
    have hp : (V.agg (p.fd (j : Int).toNat) : V) = .agg (List.take 3 (List.drop ((j : Int).toNat * 3) p.fds)) := by simp only [Int.toNat_natCast]; rw [fd_ok _ (by omega)]
    have hs := fd_spec m (p.n (68 + 3 * j)) (p.n (69 + 3 * j)) (p.n (70 + 3 * j)) hq
    apply w97_2 m p false j (fdF m (p.n (68 + 3 * j)) (p.n (69 + 3 * j)) (p.n (70 + 3 * j)))
    case c_tt =>
      intro _ h
      simp only [Bool.not_eq_true'] at h
      refine ⟨hb, hl, hp, hs, ?_⟩
      simp only [procFds]; rw [if_pos (.inl h)]; exact Le.tt false
    case c_tftt =>
      intro _ h h2 h3
      simp only [beq_iff_eq, bne_iff_ne, Int.toNat_natCast] at h2 h3
      refine ⟨hb, hl, hp, hs, ?_⟩
      simp only [procFds]; rw [if_pos (.inr ⟨h2, h3⟩)]; exact Le.tt false
    case c_tftf =>
      intro _ h h2 h3
      simp only [Bool.not_eq_false', beq_iff_eq, bne_eq_false_iff_eq, Int.toNat_natCast] at h h2 h3
      refine ⟨hb, hl, hp, hs, ?_⟩
      rw [hw]; simp only [procFds]; rw [if_neg (by rw [h, h3]; simp)]; exact ih (j + 1) (by omega)
    case c_tff =>
      intro _ h h2
      simp only [Bool.not_eq_false', beq_eq_false_iff_ne] at h h2
      refine ⟨hb, hl, hp, hs, ?_⟩
      rw [hw]; simp only [procFds]; rw [if_neg (by rw [h]; simp [h2])]; exact ih (j + 1) (by omega)
    case c_f => intro h; simp only [decide_eq_false_iff_not] at h; omega

theorem proc_at1 (m : Mac) (p : Prc) (hn : m.procs.n ≤ 140737488355328) (hq : m.pipes.n ≤ 140737488355328) : ∀ (k j : Nat), j + k = 16 →
    GoToE Try.prog 97 (fun r => Le r (.bool (procPages m p k j))) (headOf Try.f97 0) ⟨155, 1000, [(2, .ptr 0 0), (3, .ptr 1 0), (5, .bool (p.n (2 : Nat) == (3 : Int))), (95, .agg p.space), (96, .int .i64 j)], [(0, .cells 30 m.e), (1, .cells 47 p.e)]⟩ := by
  intro k
  induction k with
  | zero =>
    intro j hj
    apply w97_1 m p false j 0
    case c_f => intro _; exact proc_at2 m p hq 8 0 (by omega)
    all_goals (intro h; simp only [decide_eq_true_eq] at h; omega)
  | succ k ih =>
    intro j hj
    have hw := wrap_succ (i := j) (n := 16) (by omega) (by omega)
    have hb : (0 : Int) ≤ j ∧ (j : Int) < ((16 : Nat) : Int) := by omega
    have hl : (j : Int).toNat * 3 + 3 ≤ p.space.length := by simp only [Int.toNat_natCast]; show j * 3 + 3 ≤ 48; omega
    have hp : (V.agg (p.pte (j : Int).toNat) : V) = .agg (List.take 3 (List.drop ((j : Int).toNat * 3) p.space)) := by simp only [Int.toNat_natCast]; rw [pte_ok _ (by omega)]
    have hr := pteNone_run p j
    have hu := users_spec m (p.n (22 + 3 * j)) hn
    have hstop : pageBad m p j → Le (.tt false) (.bool (procPages m p (k + 1) j)) := by intro h; simp only [procPages]; rw [if_pos h]; exact Le.tt false
    have hgo : ¬ pageBad m p j → GoToE Try.prog 97 (fun r => Le r (.bool (procPages m p (k + 1) j))) (headOf Try.f97 0) ⟨155, 1000, [(2, .ptr 0 0), (3, .ptr 1 0), (5, .bool (p.n (2 : Nat) == (3 : Int))), (95, .agg p.space), (96, .int .i64 (IntKind.i64.wrap ((j : Int) + 1)))], [(0, .cells 30 m.e), (1, .cells 47 p.e)]⟩ := by
      intro h; rw [hw]; simp only [procPages]; rw [if_neg h]; exact ih (j + 1) (by omega)
    apply w97_1 m p false j (usersF m (p.n (22 + 3 * j)))
    case c_f => intro h; simp only [decide_eq_false_iff_not] at h; omega
    all_goals
      intros
      simp only [Int.toNat_natCast, decide_eq_true_eq, decide_eq_false_iff_not, beq_iff_eq, beq_eq_false_iff_ne, bne_iff_ne, bne_eq_false_iff_eq, Bool.not_eq_true', Bool.not_eq_false'] at *
      first
        | (exact ⟨hb, hl, hp, hr, hstop (by simp_all [pageBad])⟩)
        | (exact ⟨hb, hl, hp, hr, hu, hstop (by simp_all [pageBad])⟩)
        | (exact ⟨hb, hl, hp, hr, hgo (by simp_all [pageBad])⟩)
        | (exact ⟨hb, hl, hp, hr, hu, hgo (by simp_all [pageBad])⟩)
        | (exfalso; simp_all)

theorem proc_spec (m : Mac) (p : Prc) (hn : m.procs.n ≤ 140737488355328) (hq : m.pipes.n ≤ 140737488355328) : SpecD Try.prog 97 [.agg m.e, .agg p.e] (.bool (procF m p)) := by
  refine (specE_of (Try.func97) (by kernel_rfl) (by kernel_rfl) (by kernel_rfl) ?_).le
  have hlv := lives_spec m (p.n 1) hn
  have h9 : GoToE Try.prog 97 (fun r => Le r (.bool (procPages m p 16 0))) (cutOf Try.f97 9) ⟨155, 1000, [(2, .ptr 0 0), (3, .ptr 1 0), (5, .bool (p.n (2 : Nat) == (3 : Int)))], [(0, .cells 30 m.e), (1, .cells 47 p.e)]⟩ :=
    w97_c9 m p false (proc_at1 m p hn hq 16 0 (by omega))
  have h7 : GoToE Try.prog 97 (fun r => Le r (.bool (procWhy m p))) (cutOf Try.f97 7) ⟨155, 1000, [(2, .ptr 0 0), (3, .ptr 1 0), (5, .bool (p.n (2 : Nat) == (3 : Int))), (6, .bool (p.n (2 : Nat) == (2 : Int)))], [(0, .cells 30 m.e), (1, .cells 47 p.e)]⟩ := by
    apply w97_c7 m p false
    all_goals
      intros
      simp only [decide_eq_true_eq, decide_eq_false_iff_not, beq_iff_eq, beq_eq_false_iff_ne, bne_iff_ne, bne_eq_false_iff_eq, Bool.not_eq_true', Bool.not_eq_false'] at *
      first
        | (rw [show procWhy m p = false by unfold procWhy; rw [if_pos (by simp_all)]]; exact Le.tt false)
        | (rw [show procWhy m p = procPages m p 16 0 by unfold procWhy; rw [if_neg (by simp_all)]]; exact h9)
        | (rw [show procWhy m p = procPages m p 16 0 by unfold procWhy; rw [if_neg (by simp_all <;> omega)]]; exact h9)
  have h5 : GoToE Try.prog 97 (fun r => Le r (.bool (procPar m p))) (cutOf Try.f97 5) ⟨155, 1000, [(2, .ptr 0 0), (3, .ptr 1 0), (5, .bool (p.n (2 : Nat) == (3 : Int))), (6, .bool (p.n (2 : Nat) == (2 : Int)))], [(0, .cells 30 m.e), (1, .cells 47 p.e)]⟩ := by
    apply w97_c5 m p (livesF m (p.n 1))
    all_goals
      intros
      refine ⟨hlv, ?_⟩
      simp only [beq_iff_eq, beq_eq_false_iff_ne, bne_iff_ne, bne_eq_false_iff_eq, Bool.not_eq_true', Bool.not_eq_false'] at *
      first
        | (rw [show procPar m p = false by unfold procPar; rw [if_pos (by simp_all)]]; exact Le.tt false)
        | (rw [show procPar m p = procWhy m p by unfold procPar; rw [if_neg (by simp_all)]]; exact h7)
  apply w97_0 m p false
  all_goals
    intros
    simp only [decide_eq_true_eq, decide_eq_false_iff_not, beq_iff_eq, beq_eq_false_iff_ne, bne_iff_ne, bne_eq_false_iff_eq, Bool.not_eq_true', Bool.not_eq_false'] at *
    first
      | (rw [show procF m p = false by unfold procF; rw [if_pos (by simp_all)]]; exact Le.tt false)
      | (refine ⟨by omega, ?_⟩; rw [show procF m p = false by unfold procF; rw [if_pos (by simp_all)]]; exact Le.tt false)
      | (refine ⟨by omega, ?_⟩; rw [show procF m p = procPar m p by unfold procF; rw [if_neg (by omega)]]; exact h5)
end Go.Hb
