/-
  THE FUNCTIONS, PART M: who could go on; the machine in which they are awake.
-/
import Derived.Test.YtfcdfbafgmegfaaGreatWkV
namespace Go.Hb
open Go.RowKit Go.Proofs
set_option maxRecDepth 100000

/-- A pipe of a number: its place; itself. -/
theorem indexN_at (l : Sq Num) (g : Nat) (caps : List V) (q : Nat → Bool) (hn : l.n ≤ 140737488355328) (h : ∀ i, i < l.n → SpecD Tryz.prog g [.agg (l.f i).e, .rfp caps 0] (.bool (q i))) : ∀ (k i : Nat), i + k = l.n →
    GoToE Tryz.prog 120 (Eq (.int .i64 (idxF q k i))) (headOf Tryz.f120 0) ⟨19, 1000, [(0, nums l), (1, .fn (g) [.rfp (caps) 0]), (7, .int .i64 (↑l.n)), (8, .int .i64 i)], []⟩ := by
  intro k
  induction k with
  | zero =>
    intro i hi
    apply w129_1 l g caps i false
    case c_f => intro _; rfl
    all_goals (intro h; simp only [decide_eq_true_eq] at h; omega)
  | succ k ih =>
    intro i hi
    have hw := wrap_succ (i := i) (n := l.n) (by omega) hn
    have hb : (0 : Int) ≤ i ∧ (i : Int) < l.n := by omega
    apply w129_1 l g caps i (q i)
    case c_f => intro h; simp only [decide_eq_false_iff_not] at h; omega
    case c_tt => intro _ hq; exact ⟨hb, h i (by omega), by simp [idxF, hq]⟩
    case c_tf =>
      intro _ hq
      refine ⟨hb, h i (by omega), ?_⟩
      rw [hw]
      have := ih (i + 1) (by omega)
      simpa [idxF, hq] using this
theorem indexN_spec (l : Sq Num) (g : Nat) (caps : List V) (q : Nat → Bool) (hn : l.n ≤ 140737488355328) (h : ∀ i, i < l.n → SpecD Tryz.prog g [.agg (l.f i).e, .rfp caps 0] (.bool (q i))) :
    SpecD Tryz.prog 120 [nums l, .fn g [.rfp caps 0]] (.int .i64 (idxF q l.n 0)) :=
  (specE_of (Tryz.func120) (by kernel_rfl) (by kernel_rfl) (by kernel_rfl) (w129_0 l g caps (indexN_at l g caps q hn h l.n 0 (by omega)))).eq

def pipeQ (m : Mac) (n : Int) (i : Nat) : Bool := IntKind.u64.wrap (m.pipes.f i).n == n
def pipeAt (m : Mac) (ix : Int) : Num × Bool := if ix < 0 then (num0, false) else (m.pipes.f ix.toNat, true)
def pipeN (m : Mac) (n : Int) : Num × Bool := pipeAt m (idxF (pipeQ m n) m.pipes.n 0)
theorem pipe1_spec (p : Num) (n : Int) : SpecD Tryz.prog 159 [.agg p.e, .rfp [.int .u64 n] 0] (.bool (IntKind.u64.wrap p.n == n)) :=
  (specE_of (Tryz.func159) (by kernel_rfl) (by kernel_rfl) (by kernel_rfl) (w195_0 p n rfl)).eq
theorem pipeN_spec (m : Mac) (n : Int) (hn : m.pipes.n ≤ 140737488355328) : SpecD Tryz.prog 134 [.agg m.e, .int .u64 n] (.tup [.agg (pipeN m n).1.e, .bool (pipeN m n).2]) := by
  refine (specE_of (Tryz.func134) (by kernel_rfl) (by kernel_rfl) (by kernel_rfl) ?_).le
  have hs := indexN_spec m.pipes 159 [.int .u64 n] (pipeQ m n) hn fun i _ => pipe1_spec _ n
  have hix := @idxF_ok (pipeQ m n) m.pipes.n 0
  apply w162_0 m n (idxF (pipeQ m n) m.pipes.n 0)
  case c_t => intro h; simp only [decide_eq_true_eq] at h; refine ⟨hs, ?_⟩; unfold pipeN pipeAt; rw [if_pos h]; exact .tup (.cons (.refl _) (.cons (Le.tt false) .nil))
  case c_f =>
    intro h
    simp only [decide_eq_false_iff_not] at h
    refine ⟨hs, ?_, ?_⟩
    · rcases hix with ⟨h1, _⟩ | ⟨j, h1, h2, h3, _⟩ <;> omega
    · unfold pipeN pipeAt; rw [if_neg h]; exact .tup (.cons (.refl _) (.cons (Le.tt true) .nil))
/-- A pipe's ends: how many open files read it, and write it. -/
def incI (c : Bool) (a : Int) : Int := if c then IntKind.i64.wrap (a + 1) else a
def endsJ (p : Prc) (y : Int) : Nat → Nat → Int → Int → Int × Int
  | 0, _, a, b => (a, b)
  | k + 1, j, a, b => endsJ p y k (j + 1) (incI (p.n (68 + 3 * j) == 4 && p.n (69 + 3 * j) == y) a) (incI (p.n (68 + 3 * j) == 5 && p.n (69 + 3 * j) == y) b)
def endsI (m : Mac) (y : Int) : Nat → Nat → Int → Int → Int × Int
  | 0, _, a, b => (a, b)
  | k + 1, i, a, b => endsI m y k (i + 1) (endsJ (m.procs.f i) y 8 0 a b).1 (endsJ (m.procs.f i) y 8 0 a b).2
def endsF (m : Mac) (y : Int) : Int × Int := endsI m y m.procs.n 0 0 0
def tup2 (q : Int × Int) : V := .tup [.int .i64 q.1, .int .i64 q.2]

theorem ends50_in (m : Mac) (y : Int) (hn : m.procs.n ≤ 140737488355328) (ki i : Nat) (hi : i + 1 + ki = m.procs.n)
    (hout : ∀ (a b : Int), GoToE Tryz.prog 76 (Eq (tup2 (endsI m y ki (i + 1) a b))) (headOf Tryz.f76 0) ⟨52, 1000, [(1, .int .i64 (y)), (6, .int .i64 a), (7, .int .i64 b), (13, prcs m.procs), (14, .int .i64 ((↑m.procs.n : Int))), (15, .int .i64 ((i + 1 : Nat) : Int))], []⟩) : ∀ (k j : Nat) (a b : Int), j + k = 8 →
    GoToE Tryz.prog 76 (Eq (tup2 (endsI m y ki (i + 1) (endsJ (m.procs.f i) y k j a b).1 (endsJ (m.procs.f i) y k j a b).2))) (headOf Tryz.f76 1) ⟨52, 1000, [(1, .int .i64 (y)), (6, .int .i64 a), (7, .int .i64 b), (13, prcs m.procs), (14, .int .i64 ((↑m.procs.n : Int))), (15, .int .i64 i), (20, .agg (m.procs.f i).fds), (21, .int .i64 j)], []⟩ := by
  intro k
  induction k with
  | zero =>
    intro j a b hj
    have hwi := wrap_succ (i := i) (n := m.procs.n) (by omega) hn
    apply w50_2 m y a b i j (m.procs.f i)
    case c_f => intro _; rw [hwi]; exact hout a b
    all_goals (intro h; simp only [decide_eq_true_eq] at h; omega)
  | succ k ih =>
    intro j a b hj
    have hw := wrap_succ (i := j) (n := 8) (by omega) (by omega)
    have hb : (0 : Int) ≤ j ∧ (j : Int) < ((8 : Nat) : Int) := by omega
    have hl : (j : Int).toNat * 3 + 3 ≤ (m.procs.f i).fds.length := by
      have : (m.procs.f i).fds.length = 24 := rfl
      rw [Int.toNat_natCast]; omega
    have hp : (V.agg ((m.procs.f i).fd (j : Int).toNat) : V) = .agg (List.take 3 (List.drop ((j : Int).toNat * 3) (m.procs.f i).fds)) := by simp only [Int.toNat_natCast]; rw [fd_ok _ (by omega)]
    apply w50_2 m y a b i j (m.procs.f i)
    case c_f => intro h; simp only [decide_eq_false_iff_not] at h; omega
    case c_ttt =>
      intro _ h1 h2
      rw [Int.toNat_natCast] at h1 h2
      have h5 : ((m.procs.f i).n (68 + 3 * j) == 5) = false := by simp only [beq_iff_eq] at h1; simp; omega
      have e1 : incI ((m.procs.f i).n (68 + 3 * j) == 4 && (m.procs.f i).n (69 + 3 * j) == y) a = IntKind.i64.wrap (a + 1) := by simp only [incI, h1, h2, h5, Bool.true_and, Bool.false_and, if_true, Bool.false_eq_true, if_false]
      have e2 : incI ((m.procs.f i).n (68 + 3 * j) == 5 && (m.procs.f i).n (69 + 3 * j) == y) b = b := by simp only [incI, h1, h2, h5, Bool.true_and, Bool.false_and, if_true, Bool.false_eq_true, if_false]
      refine ⟨hb, hl, hp, ?_⟩
      rw [hw]; simp only [endsJ, e1, e2]; exact ih (j + 1) _ _ (by omega)
    case c_ttft =>
      intro _ h1 h2 h5
      rw [Int.toNat_natCast] at h1 h2 h5
      simp only [beq_iff_eq] at h1 h5; omega
    case c_ttff =>
      intro _ h1 h2 h5
      rw [Int.toNat_natCast] at h1 h2 h5
      have e1 : incI ((m.procs.f i).n (68 + 3 * j) == 4 && (m.procs.f i).n (69 + 3 * j) == y) a = a := by simp only [incI, h1, h2, h5, Bool.true_and, Bool.false_and, if_true, Bool.false_eq_true, if_false]
      have e2 : incI ((m.procs.f i).n (68 + 3 * j) == 5 && (m.procs.f i).n (69 + 3 * j) == y) b = b := by simp only [incI, h1, h2, h5, Bool.true_and, Bool.false_and, if_true, Bool.false_eq_true, if_false]
      refine ⟨hb, hl, hp, ?_⟩
      rw [hw]; simp only [endsJ, e1, e2]; exact ih (j + 1) _ _ (by omega)
    case c_tftt =>
      intro _ h1 h5 h2
      rw [Int.toNat_natCast] at h1 h5 h2
      have e1 : incI ((m.procs.f i).n (68 + 3 * j) == 4 && (m.procs.f i).n (69 + 3 * j) == y) a = a := by simp only [incI, h1, h2, h5, Bool.true_and, Bool.false_and, if_true, Bool.false_eq_true, if_false]
      have e2 : incI ((m.procs.f i).n (68 + 3 * j) == 5 && (m.procs.f i).n (69 + 3 * j) == y) b = IntKind.i64.wrap (b + 1) := by simp only [incI, h1, h2, h5, Bool.true_and, Bool.false_and, if_true, Bool.false_eq_true, if_false]
      refine ⟨hb, hl, hp, ?_⟩
      rw [hw]; simp only [endsJ, e1, e2]; exact ih (j + 1) _ _ (by omega)
    case c_tftf =>
      intro _ h1 h5 h2
      rw [Int.toNat_natCast] at h1 h5 h2
      have e1 : incI ((m.procs.f i).n (68 + 3 * j) == 4 && (m.procs.f i).n (69 + 3 * j) == y) a = a := by simp only [incI, h1, h2, h5, Bool.true_and, Bool.false_and, if_true, Bool.false_eq_true, if_false]
      have e2 : incI ((m.procs.f i).n (68 + 3 * j) == 5 && (m.procs.f i).n (69 + 3 * j) == y) b = b := by simp only [incI, h1, h2, h5, Bool.true_and, Bool.false_and, if_true, Bool.false_eq_true, if_false]
      refine ⟨hb, hl, hp, ?_⟩
      rw [hw]; simp only [endsJ, e1, e2]; exact ih (j + 1) _ _ (by omega)
    case c_tff =>
      intro _ h1 h5
      rw [Int.toNat_natCast] at h1 h5
      have e1 : incI ((m.procs.f i).n (68 + 3 * j) == 4 && (m.procs.f i).n (69 + 3 * j) == y) a = a := by simp only [incI, h1, h5, Bool.true_and, Bool.false_and, if_true, Bool.false_eq_true, if_false]
      have e2 : incI ((m.procs.f i).n (68 + 3 * j) == 5 && (m.procs.f i).n (69 + 3 * j) == y) b = b := by simp only [incI, h1, h5, Bool.true_and, Bool.false_and, if_true, Bool.false_eq_true, if_false]
      refine ⟨hb, hl, hp, ?_⟩
      rw [hw]; simp only [endsJ, e1, e2]; exact ih (j + 1) _ _ (by omega)
theorem ends50_at (m : Mac) (y : Int) (hn : m.procs.n ≤ 140737488355328) : ∀ (ki i : Nat) (a b : Int), i + ki = m.procs.n →
    GoToE Tryz.prog 76 (Eq (tup2 (endsI m y ki i a b))) (headOf Tryz.f76 0) ⟨52, 1000, [(1, .int .i64 (y)), (6, .int .i64 a), (7, .int .i64 b), (13, prcs m.procs), (14, .int .i64 ((↑m.procs.n : Int))), (15, .int .i64 i)], []⟩ := by
  intro ki
  induction ki with
  | zero =>
    intro i a b hi
    apply w50_1 m y a b i
    case c_f => intro _; rfl
    all_goals (intro h; simp only [decide_eq_true_eq] at h; omega)
  | succ ki ih =>
    intro i a b hi
    apply w50_1 m y a b i
    case c_f => intro h; simp only [decide_eq_false_iff_not] at h; omega
    case c_t =>
      intro _
      refine ⟨by omega, ?_⟩
      exact ends50_in m y hn ki i (by omega) (fun a b => ih (i + 1) a b (by omega)) 8 0 a b (by omega)
theorem ends50_spec (m : Mac) (y : Int) (hn : m.procs.n ≤ 140737488355328) : SpecD Tryz.prog 76 [.agg m.e, .int .i64 y] (tup2 (endsF m y)) :=
  (specE_of (Tryz.func76) (by kernel_rfl) (by kernel_rfl) (by kernel_rfl) (w50_0 m y (ends50_at m y hn m.procs.n 0 0 0 (by omega)))).eq

theorem ends51_in (m : Mac) (y : Int) (hn : m.procs.n ≤ 140737488355328) (ki i : Nat) (hi : i + 1 + ki = m.procs.n)
    (hout : ∀ (a b : Int), GoToE Tryz.prog 88 (Eq (tup2 (endsI m y ki (i + 1) a b))) (headOf Tryz.f88 0) ⟨50, 1000, [(1, .int .i64 (y)), (6, .int .i64 a), (7, .int .i64 b), (13, prcs m.procs), (14, .int .i64 ((↑m.procs.n : Int))), (15, .int .i64 ((i + 1 : Nat) : Int))], []⟩) : ∀ (k j : Nat) (a b : Int), j + k = 8 →
    GoToE Tryz.prog 88 (Eq (tup2 (endsI m y ki (i + 1) (endsJ (m.procs.f i) y k j a b).1 (endsJ (m.procs.f i) y k j a b).2))) (headOf Tryz.f88 1) ⟨50, 1000, [(1, .int .i64 (y)), (6, .int .i64 a), (7, .int .i64 b), (13, prcs m.procs), (14, .int .i64 ((↑m.procs.n : Int))), (15, .int .i64 i), (20, .agg (m.procs.f i).fds), (21, .int .i64 j)], []⟩ := by
  intro k
  induction k with
  | zero =>
    intro j a b hj
    have hwi := wrap_succ (i := i) (n := m.procs.n) (by omega) hn
    apply w51_2 m y a b i j (m.procs.f i)
    case c_f => intro _; rw [hwi]; exact hout a b
    all_goals (intro h; simp only [decide_eq_true_eq] at h; omega)
  | succ k ih =>
    intro j a b hj
    have hw := wrap_succ (i := j) (n := 8) (by omega) (by omega)
    have hb : (0 : Int) ≤ j ∧ (j : Int) < ((8 : Nat) : Int) := by omega
    have hl : (j : Int).toNat * 3 + 3 ≤ (m.procs.f i).fds.length := by
      have : (m.procs.f i).fds.length = 24 := rfl
      rw [Int.toNat_natCast]; omega
    have hp : (V.agg ((m.procs.f i).fd (j : Int).toNat) : V) = .agg (List.take 3 (List.drop ((j : Int).toNat * 3) (m.procs.f i).fds)) := by simp only [Int.toNat_natCast]; rw [fd_ok _ (by omega)]
    apply w51_2 m y a b i j (m.procs.f i)
    case c_f => intro h; simp only [decide_eq_false_iff_not] at h; omega
    case c_tttt =>
      intro _ h1 h2 h5
      rw [Int.toNat_natCast] at h1 h2 h5
      simp only [beq_iff_eq] at h1 h5; omega
    case c_tttf =>
      intro _ h1 h2 h5
      rw [Int.toNat_natCast] at h1 h2 h5
      have e1 : incI ((m.procs.f i).n (68 + 3 * j) == 4 && (m.procs.f i).n (69 + 3 * j) == y) a = IntKind.i64.wrap (a + 1) := by simp only [incI, h1, h2, h5, Bool.true_and, Bool.false_and, if_true, Bool.false_eq_true, if_false]
      have e2 : incI ((m.procs.f i).n (68 + 3 * j) == 5 && (m.procs.f i).n (69 + 3 * j) == y) b = b := by simp only [incI, h1, h2, h5, Bool.true_and, Bool.false_and, if_true, Bool.false_eq_true, if_false]
      refine ⟨hb, hl, hp, ?_⟩
      rw [hw]; simp only [endsJ, e1, e2]; exact ih (j + 1) _ _ (by omega)
    case c_ttft =>
      intro _ h1 h2 h5
      rw [Int.toNat_natCast] at h1 h2 h5
      simp only [beq_iff_eq] at h1 h5; omega
    case c_ttff =>
      intro _ h1 h2 h5
      rw [Int.toNat_natCast] at h1 h2 h5
      have e1 : incI ((m.procs.f i).n (68 + 3 * j) == 4 && (m.procs.f i).n (69 + 3 * j) == y) a = a := by simp only [incI, h1, h2, h5, Bool.true_and, Bool.false_and, if_true, Bool.false_eq_true, if_false]
      have e2 : incI ((m.procs.f i).n (68 + 3 * j) == 5 && (m.procs.f i).n (69 + 3 * j) == y) b = b := by simp only [incI, h1, h2, h5, Bool.true_and, Bool.false_and, if_true, Bool.false_eq_true, if_false]
      refine ⟨hb, hl, hp, ?_⟩
      rw [hw]; simp only [endsJ, e1, e2]; exact ih (j + 1) _ _ (by omega)
    case c_tftt =>
      intro _ h1 h5 h2
      rw [Int.toNat_natCast] at h1 h5 h2
      have e1 : incI ((m.procs.f i).n (68 + 3 * j) == 4 && (m.procs.f i).n (69 + 3 * j) == y) a = a := by simp only [incI, h1, h2, h5, Bool.true_and, Bool.false_and, if_true, Bool.false_eq_true, if_false]
      have e2 : incI ((m.procs.f i).n (68 + 3 * j) == 5 && (m.procs.f i).n (69 + 3 * j) == y) b = IntKind.i64.wrap (b + 1) := by simp only [incI, h1, h2, h5, Bool.true_and, Bool.false_and, if_true, Bool.false_eq_true, if_false]
      refine ⟨hb, hl, hp, ?_⟩
      rw [hw]; simp only [endsJ, e1, e2]; exact ih (j + 1) _ _ (by omega)
    case c_tftf =>
      intro _ h1 h5 h2
      rw [Int.toNat_natCast] at h1 h5 h2
      have e1 : incI ((m.procs.f i).n (68 + 3 * j) == 4 && (m.procs.f i).n (69 + 3 * j) == y) a = a := by simp only [incI, h1, h2, h5, Bool.true_and, Bool.false_and, if_true, Bool.false_eq_true, if_false]
      have e2 : incI ((m.procs.f i).n (68 + 3 * j) == 5 && (m.procs.f i).n (69 + 3 * j) == y) b = b := by simp only [incI, h1, h2, h5, Bool.true_and, Bool.false_and, if_true, Bool.false_eq_true, if_false]
      refine ⟨hb, hl, hp, ?_⟩
      rw [hw]; simp only [endsJ, e1, e2]; exact ih (j + 1) _ _ (by omega)
    case c_tff =>
      intro _ h1 h5
      rw [Int.toNat_natCast] at h1 h5
      have e1 : incI ((m.procs.f i).n (68 + 3 * j) == 4 && (m.procs.f i).n (69 + 3 * j) == y) a = a := by simp only [incI, h1, h5, Bool.true_and, Bool.false_and, if_true, Bool.false_eq_true, if_false]
      have e2 : incI ((m.procs.f i).n (68 + 3 * j) == 5 && (m.procs.f i).n (69 + 3 * j) == y) b = b := by simp only [incI, h1, h5, Bool.true_and, Bool.false_and, if_true, Bool.false_eq_true, if_false]
      refine ⟨hb, hl, hp, ?_⟩
      rw [hw]; simp only [endsJ, e1, e2]; exact ih (j + 1) _ _ (by omega)
theorem ends51_at (m : Mac) (y : Int) (hn : m.procs.n ≤ 140737488355328) : ∀ (ki i : Nat) (a b : Int), i + ki = m.procs.n →
    GoToE Tryz.prog 88 (Eq (tup2 (endsI m y ki i a b))) (headOf Tryz.f88 0) ⟨50, 1000, [(1, .int .i64 (y)), (6, .int .i64 a), (7, .int .i64 b), (13, prcs m.procs), (14, .int .i64 ((↑m.procs.n : Int))), (15, .int .i64 i)], []⟩ := by
  intro ki
  induction ki with
  | zero =>
    intro i a b hi
    apply w51_1 m y a b i
    case c_f => intro _; rfl
    all_goals (intro h; simp only [decide_eq_true_eq] at h; omega)
  | succ ki ih =>
    intro i a b hi
    apply w51_1 m y a b i
    case c_f => intro h; simp only [decide_eq_false_iff_not] at h; omega
    case c_t =>
      intro _
      refine ⟨by omega, ?_⟩
      exact ends51_in m y hn ki i (by omega) (fun a b => ih (i + 1) a b (by omega)) 8 0 a b (by omega)
theorem ends51_spec (m : Mac) (y : Int) (hn : m.procs.n ≤ 140737488355328) : SpecD Tryz.prog 88 [.agg m.e, .int .i64 y] (tup2 (endsF m y)) :=
  (specE_of (Tryz.func88) (by kernel_rfl) (by kernel_rfl) (by kernel_rfl) (w51_0 m y (ends51_at m y hn m.procs.n 0 0 0 (by omega)))).eq


/-- A child of a process: is it the one that is asked for? -/
def kidB (m : Mac) (par y : Int) (i : Nat) : Bool := (m.procs.f i).n 1 == par && (y == 0 || IntKind.u64.wrap ((m.procs.f i).n 0) == y)
def childK (m : Mac) (par y : Int) : Nat → Nat → Bool → Bool
  | 0, _, b => b
  | k + 1, i, b => if kidB m par y i then (if (m.procs.f i).n 2 = 3 then true else childK m par y k (i + 1) false) else childK m par y k (i + 1) b
def chilK (m : Mac) (par y : Int) : Nat → Nat → Nat → Nat → Nat × Nat
  | 0, _, a, d => (a, d)
  | k + 1, i, a, d => if kidB m par y i then chilK m par y k (i + 1) (a + 1) (if (m.procs.f i).n 2 = 3 then d + 1 else d) else chilK m par y k (i + 1) a d
theorem chilK_mono (m : Mac) (par y : Int) : ∀ (k i a d : Nat), a ≤ (chilK m par y k i a d).1 ∧ d ≤ (chilK m par y k i a d).2
  | 0, _, _, _ => ⟨Nat.le_refl _, Nat.le_refl _⟩
  | k + 1, i, a, d => by
    unfold chilK
    split
    · have := chilK_mono m par y k (i + 1) (a + 1) (if (m.procs.f i).n 2 = 3 then d + 1 else d)
      refine ⟨by omega, ?_⟩
      have h2 := this.2
      split at h2 <;> simp_all <;> omega
    · exact chilK_mono m par y k (i + 1) a d
theorem chil_eq (m : Mac) (par y : Int) : ∀ (k i a : Nat), (decide ((chilK m par y k i a 0).2 > 0) || (chilK m par y k i a 0).1 == 0) = childK m par y k i (a == 0)
  | 0, _, a => by simp [chilK, childK]
  | k + 1, i, a => by
    unfold chilK childK
    by_cases hk : kidB m par y i = true
    · rw [if_pos hk, if_pos hk]
      by_cases h3 : (m.procs.f i).n 2 = 3
      · rw [if_pos h3, if_pos h3]
        have := (chilK_mono m par y k (i + 1) (a + 1) (0 + 1)).2
        rw [decide_eq_true (show (chilK m par y k (i + 1) (a + 1) (0 + 1)).2 > 0 by omega), Bool.true_or]
      · rw [if_neg h3, if_neg h3, chil_eq m par y k (i + 1) (a + 1)]
        rfl
    · rw [if_neg hk, if_neg hk]
      exact chil_eq m par y k (i + 1) a
def childF (m : Mac) (p : Prc) : Bool := childK m (p.n 0) (p.n 95) m.procs.n 0 true

theorem child_tag (m : Mac) (p : Prc) (i : Int) (c : Bool) {Q : V → Prop} (g : GoToE Tryz.prog 136 Q (headOf Tryz.f136 0) ⟨38, 1000, [(3, .ptr 0 0), (5, .bool c), (9, prcs m.procs), (10, .int .i64 ((↑m.procs.n : Int))), (11, .int .i64 i)], [(0, .cells 51 p.e)]⟩) :
    GoToE Tryz.prog 136 Q (headOf Tryz.f136 0) ⟨38, 1000, [(3, .ptr 0 0), (5, .tt c), (9, prcs m.procs), (10, .int .i64 ((↑m.procs.n : Int))), (11, .int .i64 i)], [(0, .cells 51 p.e)]⟩ := by
  obtain ⟨res, hq, g⟩ := g
  exact ⟨res, hq, GoTo.ent (obs := [Le (.ptr 0 0) (.ptr 0 0), Le (.tt c) (.bool c), Le (prcs m.procs) (prcs m.procs), Le (.int .i64 ((↑m.procs.n : Int))) (.int .i64 ((↑m.procs.n : Int))), Le (.int .i64 i) (.int .i64 i), LeB (.cells 51 p.e) (.cells 51 p.e)]) rfl
    ⟨.refl _, Le.tt c, .refl _, .refl _, .refl _, LeB.refl _, trivial⟩ (by omega) g⟩

theorem child_at (m : Mac) (p : Prc) (hn : m.procs.n ≤ 140737488355328) (hp : 0 ≤ p.n 95) : ∀ (k i : Nat) (b : Bool), i + k = m.procs.n →
    GoToE Tryz.prog 136 (fun r => Le r (.bool (childK m (p.n 0) (p.n 95) k i b))) (headOf Tryz.f136 0) ⟨38, 1000, [(3, .ptr 0 0), (5, .bool b), (9, prcs m.procs), (10, .int .i64 ((↑m.procs.n : Int))), (11, .int .i64 i)], [(0, .cells 51 p.e)]⟩ := by
  intro k
  induction k with
  | zero =>
    intro i b hi
    apply w164_1 m p b i
    case c_f => intro _; exact Le.refl _
    all_goals (intro h; simp only [decide_eq_true_eq] at h; omega)
  | succ k ih =>
    intro i b hi
    have hw := wrap_succ (i := i) (n := m.procs.n) (by omega) hn
    have hb : (0 : Int) ≤ i ∧ (i : Int) < m.procs.n := by omega
    have kid : kidB m (p.n 0) (p.n 95) i = ((m.procs.f i).n 1 == p.n 0 && (p.n 95 == 0 || IntKind.u64.wrap ((m.procs.f i).n 0) == p.n 95)) := rfl
    have k0 : ((p.n 95 > 0) ↔ ¬ p.n 95 = 0) := by omega
    apply w164_1 m p b i
    case c_f => intro h; simp only [decide_eq_false_iff_not] at h; omega
    case c_tt =>
      intro _ h1
      rw [Int.toNat_natCast] at h1
      have hk : kidB m (p.n 0) (p.n 95) i = false := by rw [kid]; simp_all
      refine ⟨hb, ?_⟩; rw [hw]; simp only [childK, hk]; exact ih (i + 1) b (by omega)
    case c_tftt =>
      intro _ h1 h2 h3
      simp only [Int.toNat_natCast, decide_eq_true_eq] at h1 h2 h3
      have hk : kidB m (p.n 0) (p.n 95) i = false := by
        rw [kid]
        have : (p.n 95 == 0) = false := by simp; omega
        simp_all
      refine ⟨hb, ?_⟩; rw [hw]; simp only [childK, hk]; exact ih (i + 1) b (by omega)
    case c_tftft =>
      intro _ h1 h2 h3 h4
      simp only [Int.toNat_natCast, decide_eq_true_eq, beq_iff_eq] at h1 h2 h3 h4
      have hk : kidB m (p.n 0) (p.n 95) i = true := by rw [kid]; simp_all
      refine ⟨hb, ?_⟩; simp only [childK, hk, h4, if_true]; exact Le.tt true
    case c_tftff =>
      intro _ h1 h2 h3 h4
      simp only [Int.toNat_natCast, decide_eq_true_eq, beq_eq_false_iff_ne] at h1 h2 h3 h4
      have hk : kidB m (p.n 0) (p.n 95) i = true := by rw [kid]; simp_all
      refine ⟨hb, ?_⟩; rw [hw]; simp only [childK, hk, if_true]; rw [if_neg h4]; exact child_tag m p _ false (ih (i + 1) false (by omega))
    case c_tfft =>
      intro _ h1 h2 h4
      simp only [Int.toNat_natCast, decide_eq_false_iff_not, beq_iff_eq] at h1 h2 h4
      have hk : kidB m (p.n 0) (p.n 95) i = true := by
        rw [kid]
        have : (p.n 95 == 0) = true := by simp; omega
        simp_all
      refine ⟨hb, ?_⟩; simp only [childK, hk, h4, if_true]; exact Le.tt true
    case c_tfff =>
      intro _ h1 h2 h4
      simp only [Int.toNat_natCast, decide_eq_false_iff_not, beq_eq_false_iff_ne] at h1 h2 h4
      have hk : kidB m (p.n 0) (p.n 95) i = true := by
        rw [kid]
        have : (p.n 95 == 0) = true := by simp; omega
        simp_all
      refine ⟨hb, ?_⟩; rw [hw]; simp only [childK, hk, if_true]; rw [if_neg h4]; exact child_tag m p _ false (ih (i + 1) false (by omega))
theorem child_spec (m : Mac) (p : Prc) (hn : m.procs.n ≤ 140737488355328) (hp : 0 ≤ p.n 95) : SpecD Tryz.prog 136 [.agg m.e, .agg p.e] (.bool (childF m p)) := by
  refine (specE_of (Tryz.func136) (by kernel_rfl) (by kernel_rfl) (by kernel_rfl) ?_).le
  refine w164_0 m p ?_
  exact child_tag m p 0 true (child_at m p hn hp m.procs.n 0 true (by omega))

end Go.Hb
