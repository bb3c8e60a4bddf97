/-
  THE FUNCTIONS, PART B: numbers as bytes, noughts, drives, rows of texts.
-/
import Derived.Test.YtfcdfbafgmegfaaWkB
import Derived.Test.YtfcdfbafgmegfaaFnA
namespace Go.Hb
open Go.RowKit Go.Proofs

theorem i64max : IntKind.i64.max = 9223372036854775807 := rfl
theorem size_bytesOf1 (x : Int) : (bytesOf [x]).size = 1 := rfl
theorem size_app (a b : ByteArray) : (a ++ b).size = a.size + b.size := by simp

def putK (sz : Int) : Nat → Nat → Int → ByteArray → ByteArray
  | 0, _, _, s => s
  | k + 1, i, x, s => if (i : Int) < sz ∧ i < 8 then putK sz k (i + 1) (IntKind.u64.wrap (x.tdiv 256)) (s ++ bytesOf [IntKind.u8.wrap (x.tmod 256)]) else s

theorem put_at (x0 sz : Int) : ∀ (k i : Nat) (x : Int) (s : ByteArray), i + k = 9 → i ≤ 8 → s.size = i →
    GoToE Try.prog 166 (Eq (.str (putK sz k i x s))) (headOf Try.f166 0) ⟨26, 1000, [(0, .int .u64 x), (1, .int .i64 (sz)), (5, .str s), (6, .int .i64 i)], []⟩ := by
  intro k
  induction k with
  | zero => intro i x s hi hi8; omega
  | succ k ih =>
    intro i x s hi hi8 hs
    have hw := wrap_succ (i := i) (n := 100) (by omega) (by omega)
    apply w166_1 x0 sz x i s
    case c_tt =>
      intro h1 h2
      simp only [decide_eq_true_eq] at h1 h2
      refine ⟨by omega, by rw [size_bytesOf1, hs, i64max]; omega, by omega, ?_⟩
      rw [hw]
      have := ih (i + 1) (IntKind.u64.wrap (x.tdiv 256)) (s ++ bytesOf [IntKind.u8.wrap (x.tmod 256)]) (by omega) (by omega) (by rw [size_app, size_bytesOf1, hs])
      simp only [putK]; rw [if_pos ⟨h1, by omega⟩]; exact this
    case c_tf => intro h1 h2; simp only [decide_eq_false_iff_not] at h2; simp only [putK]; rw [if_neg (by omega)]
    case c_f => intro h1; simp only [decide_eq_false_iff_not] at h1; simp only [putK]; rw [if_neg (by omega)]

def putF (x sz : Int) : ByteArray := putK sz 9 0 x ⟨#[]⟩
theorem put_spec (x sz : Int) : SpecD Try.prog 166 [.int .u64 x, .int .i64 sz] (.str (putF x sz)) :=
  (specE_of (Try.func166) (by kernel_rfl) (by kernel_rfl) (by kernel_rfl) (w166_0 x sz (put_at x sz 9 0 x ⟨#[]⟩ (by omega) (by omega) rfl))).eq

theorem putK_size (sz : Int) : ∀ (k i : Nat) (x : Int) (s : ByteArray), s.size = i → i ≤ 8 → (putK sz k i x s).size ≤ 8
  | 0, i, x, s, hs, hi => by simp only [putK]; omega
  | k + 1, i, x, s, hs, hi => by
    simp only [putK]
    split
    · exact putK_size sz k (i + 1) _ _ (by rw [size_app, size_bytesOf1, hs]) (by omega)
    · omega
theorem putF_size (x sz : Int) : (putF x sz).size ≤ 8 := putK_size sz 9 0 x _ rfl (by omega)

def zer : Nat → ByteArray
  | 0 => ⟨#[]⟩
  | n + 1 => zer n ++ ⟨#[0]⟩
theorem size_zer : ∀ n, (zer n).size = n
  | 0 => rfl
  | n + 1 => by simp only [zer]; rw [size_app, size_zer n]; rfl

theorem zeros_at (x : Nat) (hx : x ≤ 1000000) : ∀ (k i : Nat), i + k = x →
    GoToE Try.prog 126 (Eq (.str (zer x))) (headOf Try.f126 0) ⟨13, 1000, [(0, .int .i64 x), (3, .str (zer i)), (4, .int .i64 i)], []⟩ := by
  intro k
  induction k with
  | zero =>
    intro i hi
    apply w126_1 x i (zer i)
    case c_t => intro h; simp only [decide_eq_true_eq] at h; omega
    case c_f => intro _; rw [show i = x by omega]
  | succ k ih =>
    intro i hi
    have hw := wrap_succ (i := i) (n := x) (by omega) (by omega)
    apply w126_1 x i (zer i)
    case c_t =>
      intro _
      refine ⟨?_, ?_⟩
      · rw [size_zer, i64max]; simp only [ByteArray.size, Array.size]; simp; omega
      · rw [hw]; exact ih (i + 1) (by omega)
    case c_f => intro h; simp only [decide_eq_false_iff_not] at h; omega

theorem zeros_spec (x : Nat) (hx : x ≤ 1000000) : SpecD Try.prog 126 [.int .i64 x] (.str (zer x)) :=
  (specE_of (Try.func126) (by kernel_rfl) (by kernel_rfl) (by kernel_rfl) (w126_0 x (zeros_at x hx x 0 (by omega)))).eq

def getK (s : ByteArray) : Nat → Int → Int
  | 0, x => x
  | k + 1, x => getK s k (if k < 8 then IntKind.u64.wrap (IntKind.u64.wrap (x * 256) + IntKind.u64.wrap ((s.data.getD k 0).toNat : Int)) else x)
def getF (s : ByteArray) : Int := getK s s.size 0

theorem get_at (s : ByteArray) (hs : s.size ≤ 140737488355328) : ∀ (k : Nat) (x : Int), k ≤ s.size →
    GoToE Try.prog 192 (Eq (.int .u64 (getK s k x))) (headOf Try.f192 0) ⟨22, 1000, [(0, .str (s)), (3, .int .u64 x), (4, .int .i64 ((k : Int) - 1))], []⟩ := by
  intro k
  induction k with
  | zero =>
    intro x _
    apply w192_1 s x
    case c_f => intro _; rfl
    all_goals (intro h; simp only [decide_eq_true_eq] at h; omega)
  | succ k ih =>
    intro x hk
    have e1 : ((k + 1 : Nat) : Int) - 1 = k := by omega
    have hw : IntKind.i64.wrap ((k : Int) - 1) = (k : Int) - 1 := by rw [IntWalk.i64_in _ (by omega)]
    rw [e1]
    apply w192_1 s x
    case c_tt =>
      intro _ h
      simp only [decide_eq_true_eq] at h
      refine ⟨by omega, ?_⟩
      rw [hw]
      have := ih (IntKind.u64.wrap (IntKind.u64.wrap (x * 256) + IntKind.u64.wrap ((s.data.getD k 0).toNat : Int))) (by omega)
      simp only [getK, if_pos (show k < 8 by omega)]
      exact this
    case c_tf =>
      intro _ h
      simp only [decide_eq_false_iff_not] at h
      rw [hw]
      have := ih x (by omega)
      simp only [getK, if_neg (show ¬ k < 8 by omega)]
      exact this
    case c_f => intro h; simp only [decide_eq_false_iff_not] at h; omega

theorem get_spec (s : ByteArray) (hs : s.size ≤ 140737488355328) : SpecD Try.prog 192 [.str s] (.int .u64 (getF s)) := by
  refine (specE_of (Try.func192) (by kernel_rfl) (by kernel_rfl) (by kernel_rfl) (w192_0 s ?_)).eq
  rw [show IntKind.i64.wrap ((s.size : Int) - 1) = (s.size : Int) - 1 by rw [IntWalk.i64_in _ (by omega)]]
  exact get_at s hs s.size 0 (Nat.le_refl _)

/-- Two rows of texts: are they one? -/
def sameK (a b : Sq ByteArray) : Nat → Nat → Bool
  | 0, _ => true
  | k + 1, i => strEq (a.f i) (b.f i) && sameK a b k (i + 1)
def sameF (a b : Sq ByteArray) : Bool := decide (a.n = b.n) && sameK a b a.n 0

theorem same_at (a b : Sq ByteArray) (ha : a.n ≤ 140737488355328) (hab : a.n = b.n) : ∀ (k i : Nat), i + k = a.n →
    GoToE Try.prog 103 (fun r => Le r (.bool (sameK a b k i))) (headOf Try.f103 0) ⟨26, 1000, [(0, strs a), (1, strs b), (12, .int .i64 (↑a.n)), (13, .int .i64 i)], []⟩ := by
  intro k
  induction k with
  | zero =>
    intro i hi
    apply w103_1 a b i
    case c_f => intro _; exact Le.tt true
    all_goals (intro h; simp only [decide_eq_true_eq] at h; omega)
  | succ k ih =>
    intro i hi
    have hw := wrap_succ (i := i) (n := a.n) (by omega) ha
    apply w103_1 a b i
    case c_tt =>
      intro _ h
      simp only [Int.toNat_natCast, Bool.not_eq_true'] at h
      refine ⟨by omega, by omega, ?_⟩
      simp only [sameK, h, Bool.false_and]; exact Le.tt false
    case c_tf =>
      intro _ h
      simp only [Int.toNat_natCast, Bool.not_eq_false'] at h
      refine ⟨by omega, by omega, ?_⟩
      rw [hw]; simp only [sameK, h, Bool.true_and]; exact ih (i + 1) (by omega)
    case c_f => intro h; simp only [decide_eq_false_iff_not] at h; omega

theorem same_spec (a b : Sq ByteArray) (ha : a.n ≤ 140737488355328) : SpecD Try.prog 103 [strs a, strs b] (.bool (sameF a b)) := by
  refine (specE_of (Try.func103) (by kernel_rfl) (by kernel_rfl) (by kernel_rfl) ?_).le
  apply w103_0 a b
  case c_t =>
    intro h
    simp only [bne_iff_ne, ne_eq, Int.ofNat_inj] at h
    have : sameF a b = false := by simp [sameF, h]
    rw [this]; exact Le.tt false
  case c_f =>
    intro h
    simp only [bne_eq_false_iff_eq, Int.ofNat_inj] at h
    have : sameF a b = sameK a b a.n 0 := by simp [sameF, h]
    rw [this]; exact same_at a b ha h a.n 0 (by omega)

theorem strEq_self (s : ByteArray) : strEq s s = true := by simp [strEq]
theorem sameK_self (a : Sq ByteArray) : ∀ k i, sameK a a k i = true
  | 0, _ => rfl
  | k + 1, i => by simp [sameK, strEq_self, sameK_self a k (i + 1)]
theorem sameF_self (a : Sq ByteArray) : sameF a a = true := by simp [sameF, sameK_self]

theorem numEq_run (p q : Num) : EqRun Try.prog 59 p.e q.e (numEq p q) := eqRun_of (by kernel_rfl) (by kernel_rfl)

/-- Two rows of pipes. -/
def pipesK (a b : Sq Num) : Nat → Nat → Bool
  | 0, _ => true
  | k + 1, i => numEq (a.f i) (b.f i) && pipesK a b k (i + 1)
def pipesF (a b : Sq Num) : Bool := decide (a.n = b.n) && pipesK a b a.n 0

theorem pipes_at (a b : Sq Num) (ha : a.n ≤ 140737488355328) (hab : a.n = b.n) : ∀ (k i : Nat), i + k = a.n →
    GoToE Try.prog 104 (fun r => Le r (.bool (pipesK a b k i))) (headOf Try.f104 0) ⟨26, 1000, [(0, nums a), (1, nums b), (12, .int .i64 (↑a.n)), (13, .int .i64 i)], []⟩ := by
  intro k
  induction k with
  | zero =>
    intro i hi
    apply w104_1 a b i
    case c_f => intro _; exact Le.tt true
    all_goals (intro h; simp only [decide_eq_true_eq] at h; omega)
  | succ k ih =>
    intro i hi
    have hw := wrap_succ (i := i) (n := a.n) (by omega) ha
    apply w104_1 a b i
    case c_tt =>
      intro _ h
      simp only [Int.toNat_natCast, Bool.not_eq_true'] at h
      refine ⟨by omega, by omega, numEq_run _ _, ?_⟩
      simp only [pipesK, h, Bool.false_and]; exact Le.tt false
    case c_tf =>
      intro _ h
      simp only [Int.toNat_natCast, Bool.not_eq_false'] at h
      refine ⟨by omega, by omega, numEq_run _ _, ?_⟩
      rw [hw]; simp only [pipesK, h, Bool.true_and]; exact ih (i + 1) (by omega)
    case c_f => intro h; simp only [decide_eq_false_iff_not] at h; omega

theorem pipes_spec (a b : Sq Num) (ha : a.n ≤ 140737488355328) : SpecD Try.prog 104 [nums a, nums b] (.bool (pipesF a b)) := by
  refine (specE_of (Try.func104) (by kernel_rfl) (by kernel_rfl) (by kernel_rfl) ?_).le
  apply w104_0 a b
  case c_t =>
    intro h
    simp only [bne_iff_ne, ne_eq, Int.ofNat_inj] at h
    have : pipesF a b = false := by simp [pipesF, h]
    rw [this]; exact Le.tt false
  case c_f =>
    intro h
    simp only [bne_eq_false_iff_eq, Int.ofNat_inj] at h
    have : pipesF a b = pipesK a b a.n 0 := by simp [pipesF, h]
    rw [this]; exact pipes_at a b ha h a.n 0 (by omega)

theorem numEq_self (p : Num) : numEq p p = true := by simp [numEq, strEq_self]
theorem pipesK_self (a : Sq Num) : ∀ k i, pipesK a a k i = true
  | 0, _ => rfl
  | k + 1, i => by simp [pipesK, numEq_self, pipesK_self a k (i + 1)]
theorem pipesF_self (a : Sq Num) : pipesF a a = true := by simp [pipesF, pipesK_self]
end Go.Hb
