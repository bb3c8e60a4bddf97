/-
  THE FUNCTIONS, PART J: a volume and a drive without anything, as the document lays them.
-/
import Derived.Test.YtfcdfbafgmegfaaFnI
namespace Go.Hb
open Go.RowKit Go.Proofs

theorem lim16 {n : Nat} (h : n ≤ 4096) : n * 16 ≤ 140737488355328 ∧ n ≤ maxLen := by
  have : (65536 : Nat) ≤ maxLen := by decide
  omega
theorem putF_two (x : Int) : (putF x 2).size = 2 := by
  simp only [putF, putK]
  rw [if_pos (by omega), if_pos (by omega), if_neg (by omega)]
  rw [size_app, size_app, size_bytesOf1, size_bytesOf1]; rfl
theorem headF_size (g : Geo) : (headF g).size = 128 := by
  have b1 : ({ data := #[(104 : UInt8), (105 : UInt8), (98 : UInt8), (49 : UInt8)] : ByteArray }).size = 4 := rfl
  rw [headF, size_app, size_app, size_app, b1, putF_two, putF_two, size_zer]

theorem push_str {n : Nat} {f g : Nat → List V} {z : ByteArray} (h1 : ∀ j, j < n → f j = g j) (h2 : [V.str z] = g n) :
    ∀ j, j < n + 1 → joinF n f (fun i => List.take 1 (List.drop (0 + i * 1) (splice (rep 1 (consts (Value.string ⟨#[]⟩).cells.toList)) (0 * 1) [V.str z]))) j = g j := by
  intro j hj
  unfold joinF
  by_cases h : j < n
  · rw [if_pos h]; exact h1 j h
  · rw [if_neg h]
    obtain rfl : j = n := by omega
    rw [← h2, Nat.sub_self]; rfl

theorem zeros2_at (x : Nat) (hx : x ≤ 1000000) : ∀ (k i : Nat), i + k = x →
    GoToE Try.prog 128 (Eq (.str (zer x))) (headOf Try.f128 0) ⟨13, 1000, [(0, .int .i64 x), (3, .str (zer i)), (4, .int .i64 i)], []⟩ := by
  intro k
  induction k with
  | zero =>
    intro i hi
    apply w128_1 x i (zer i)
    case c_t => intro h; simp only [decide_eq_true_eq] at h; omega
    case c_f => intro _; rw [show i = x by omega]
  | succ k ih =>
    intro i hi
    have hw := wrap_succ (i := i) (n := x) (by omega) (by omega)
    apply w128_1 x i (zer i)
    case c_t =>
      intro _
      refine ⟨?_, ?_⟩
      · rw [size_zer, i64max]; simp only [ByteArray.size, Array.size]; simp; omega
      · rw [hw]; exact ih (i + 1) (by omega)
    case c_f => intro h; simp only [decide_eq_false_iff_not] at h; omega
theorem zeros2_spec (x : Nat) (hx : x ≤ 1000000) : SpecD Try.prog 128 [.int .i64 x] (.str (zer x)) :=
  (specE_of (Try.func128) (by kernel_rfl) (by kernel_rfl) (by kernel_rfl) (w128_0 x (zeros2_at x hx x 0 (by omega)))).eq

def turnF (s : ByteArray) (i : Int) : ByteArray :=
  s.extract (Int.toNat (0 : Int)) (IntKind.i64.wrap (i.tdiv (8 : Int))).toNat ++ bytesOf [bitXor IntKind.u8 (↑(s.data.getD (IntKind.i64.wrap (i.tdiv (8 : Int))).toNat (0 : UInt8)).toNat : Int) (shlI IntKind.u8 (1 : Int) (i.tmod (8 : Int)))] ++
    s.extract (IntKind.i64.wrap (IntKind.i64.wrap (i.tdiv (8 : Int)) + (1 : Int))).toNat (↑s.size : Int).toNat
theorem turn_parts (s : ByteArray) (i : Nat) (h1 : i < 1024) (hs : s.size = 128) : IntKind.i64.wrap ((i : Int).tdiv 8) = (i : Int) / 8 ∧ IntKind.i64.wrap (IntKind.i64.wrap ((i : Int).tdiv 8) + 1) = (i : Int) / 8 + 1 ∧
    (s.extract (Int.toNat (0 : Int)) (IntKind.i64.wrap ((i : Int).tdiv (8 : Int))).toNat).size = i / 8 ∧ (s.extract (IntKind.i64.wrap (IntKind.i64.wrap ((i : Int).tdiv (8 : Int)) + (1 : Int))).toNat (↑s.size : Int).toNat).size = 127 - i / 8 := by
  have e : IntKind.i64.wrap ((i : Int).tdiv (8 : Int)) = (i : Int) / 8 := IntWalk.i64_quo _ _ (by omega)
  have e2 : IntKind.i64.wrap (IntKind.i64.wrap ((i : Int).tdiv (8 : Int)) + 1) = (i : Int) / 8 + 1 := by rw [e, IntWalk.i64_in _ (by omega)]
  refine ⟨e, e2, ?_, ?_⟩
  · rw [e, ByteArray.size_extract, hs]; simp only [Int.toNat_zero]; omega
  · rw [e2, ByteArray.size_extract, hs]; omega
theorem turnF_size (s : ByteArray) (i : Nat) (h1 : i < 1024) (hs : s.size = 128) : (turnF s i).size = 128 := by
  obtain ⟨_, _, h3, h4⟩ := turn_parts s i h1 hs
  rw [turnF, size_app, size_app, h3, h4, size_bytesOf1]
  omega
theorem turn_spec (s : ByteArray) (i : Nat) (h1 : i < 1024) (hs : s.size = 128) : SpecD Try.prog 127 [.str s, .int .i64 i] (.str (turnF s i)) := by
  refine (specE_of (Try.func127) (by kernel_rfl) (by kernel_rfl) (by kernel_rfl) ?_).eq
  obtain ⟨e, e2, h3, h4⟩ := turn_parts s i h1 hs
  refine w127_0 s i ⟨by omega, ⟨by omega, by rw [e]; omega⟩, by rw [e]; omega, by omega, ⟨by rw [e]; omega, by rw [e]; omega⟩, by omega, Int.tmod_nonneg _ (by omega), ?_, by omega, ⟨by rw [e2]; omega, by rw [e2]; omega⟩, by omega, ?_, rfl⟩
  · rw [h3, i64max, size_bytesOf1]; omega
  · rw [size_app, h3, h4, i64max, size_bytesOf1]; omega

/-- The bitmap: the first blocks are taken. -/
def turns : Nat → ByteArray
  | 0 => zer 128
  | n + 1 => turnF (turns n) n
theorem turns_size : ∀ n, n ≤ 1024 → (turns n).size = 128
  | 0, _ => size_zer 128
  | n + 1, h => turnF_size _ n (by omega) (turns_size n (by omega))

/-- Layer 17's volume of 24 blocks. -/
def geo24 : Geo := ⟨24, 6, 1, 2, 3, 6⟩
def vol24 (i : Nat) (j : Nat) : ByteArray := if j = 2 then turns i else if j = 0 then headF geo24 else zer 128
def fmtA (i : Nat) : Sq ByteArray := ⟨i, fun j => if j = 0 then headF geo24 else zer 128⟩
def fmtB (i : Nat) : Sq ByteArray := ⟨24, vol24 i⟩

theorem fmt_at2 : ∀ (k i : Nat), i + k = 6 →
    GoToE Try.prog 73 (Eq (.tup [strs (fmtB 6), .int .i64 0])) (headOf Try.f73 1) ⟨46, 1000, [(6, .ptr 0 0), (8, .vec 1), (10, .int .i64 i)], [(0, .cells 167 geo24.e), (1, .vec 9 1 (fmtB i).n (fun j => [.str ((fmtB i).f j)]))]⟩ := by
  intro k
  induction k with
  | zero =>
    intro i hi
    obtain rfl : i = 6 := by omega
    apply w73_2 geo24 (headF geo24) (zer 128) (zer 128) (fmtB 6) ((6 : Nat) : Int)
    case c_t => intro h; simp only [decide_eq_true_eq] at h; exact absurd h (by decide)
    case c_f => intro _; rfl
  | succ k ih =>
    intro i hi
    have hw := wrap_succ (i := i) (n := 6) (by omega) (by omega)
    apply w73_2 geo24 (headF geo24) (zer 128) (turnF (turns i) i) (fmtB i) i
    case c_t =>
      intro _
      refine ⟨by simp only [fmtB]; omega, by simp only [fmtB]; decide, turn_spec (turns i) i (by omega) (turns_size i (by omega)), by simp only [fmtB]; omega, by simp only [fmtB]; decide, ?_⟩
      rw [hw]
      refine GoToE.reVec 1 (n' := 24) (g' := fun j => [.str ((fmtB (i + 1)).f j)]) rfl rfl (fun j hj => ?_) (ih (i + 1) (by omega))
      simp only [fmtB, vol24]
      by_cases hj2 : j = 2
      · subst hj2; rfl
      · rw [if_neg (by simpa using hj2)]
        simp only [if_neg hj2]
    case c_f => intro h; have h : decide ((i : Int) < 6) = false := h; simp only [decide_eq_false_iff_not] at h; omega

theorem fmt_at1 : ∀ (k i : Nat), i + k = 24 → 1 ≤ i →
    GoToE Try.prog 73 (Eq (.tup [strs (fmtB 6), .int .i64 0])) (headOf Try.f73 0) ⟨46, 1000, [(0, .int .i64 ((24 : Int))), (6, .ptr 0 0), (8, .vec 1), (9, .int .i64 i)], [(0, .cells 167 geo24.e), (1, .vec 9 1 (fmtA i).n (fun j => [.str ((fmtA i).f j)]))]⟩ := by
  intro k
  induction k with
  | zero =>
    intro i hi h1
    obtain rfl : i = 24 := by omega
    apply w73_1 geo24 (headF geo24) (zer 128) (zer 128) (fmtA 24) ((24 : Nat) : Int)
    case c_t => intro h; simp only [decide_eq_true_eq] at h; omega
    case c_f =>
      intro _
      refine GoToE.reVec 1 (n' := 24) (g' := fun j => [.str ((fmtB 0).f j)]) rfl rfl (fun j hj => ?_) (fmt_at2 6 0 (by omega))
      simp only [fmtA, fmtB, vol24, turns]
      by_cases hj2 : j = 2
      · subst hj2; rfl
      · simp only [if_neg hj2]
  | succ k ih =>
    intro i hi h1
    have hw := wrap_succ (i := i) (n := 24) (by omega) (by omega)
    apply w73_1 geo24 (headF geo24) (zer 128) (zer 128) (fmtA i) i
    case c_t =>
      intro _
      refine ⟨zeros_spec 128 (by omega), lim16 (by simp only [fmtA]; omega), ?_⟩
      rw [hw]
      refine GoToE.reVec 1 (n' := i + 1) (g' := fun j => [.str ((fmtA (i + 1)).f j)]) rfl rfl (push_str (fun j hj => rfl) ?_) (ih (i + 1) (by omega) (by omega))
      show [V.str (zer 128)] = [V.str (if i = 0 then headF geo24 else zer 128)]
      rw [if_neg (by omega)]
    case c_f => intro h; simp only [decide_eq_false_iff_not] at h; omega

theorem fmt17_spec : SpecD Try.prog 73 [.int .i64 24, .int .i64 6] (.tup [strs (fmtB 6), .int .i64 0]) := by
  refine (specE_of (Try.func73) (by kernel_rfl) (by kernel_rfl) (by kernel_rfl) ?_).eq
  have hp := plan_spec 24 6
  have e : planE 24 6 = 0 := by decide
  have e2 : planG 24 6 = geo24 := by unfold planG; rw [e]; rfl
  rw [e, e2] at hp
  refine w73_0 geo24 (headF geo24) (zer 128) (zer 128) ⟨hp, head_spec geo24, ?_⟩
  refine GoToE.reVec 1 (n' := 1) (g' := fun j => [.str ((fmtA 1).f j)]) rfl rfl (fun j hj => ?_) (fmt_at1 23 1 (by omega) (by omega))
  have hj : j < 1 := hj
  obtain rfl : j = 0 := by omega
  rfl

theorem fmtB_size (i : Nat) (hi : i ≤ 1024) : ∀ j, ((fmtB i).f j).size = 128 := by
  intro j
  simp only [fmtB, vol24]
  split
  · exact turns_size i hi
  · split
    · exact headF_size geo24
    · exact size_zer 128

/-- Layer 16's drive about a volume. -/
def drvA (i : Nat) : Sq ByteArray := ⟨i, fun _ => zer 128⟩
def drvB (v : Sq ByteArray) (i : Nat) : Sq ByteArray := ⟨33 + i, fun j => if j < 33 then zer 128 else v.f (j - 33)⟩
def drvOf (v : Sq ByteArray) : Drv := ⟨drvB v v.n, ⟨0, fun _ => num0⟩, -1⟩

theorem dfm_at2 (v : Sq ByteArray) (hv : v.n ≤ 223) (hs : ∀ j, j < v.n → (v.f j).size = 128) : ∀ (k i : Nat), i + k = v.n →
    GoToE Try.prog 74 (Eq (.tup [.agg [strs (drvB v v.n), .nilsl, .int .i64 (-1)], .int .i64 0])) (headOf Try.f74 1) ⟨50, 1000, [(0, strs v), (2, .ptr 0 0), (4, .ptr 1 0), (28, .int .i64 ((↑v.n : Int))), (29, .int .i64 i)], [(0, .cells 28 [.nilsl, .nilsl, .int .i64 ((0 : Int))]), (1, .cells 28 [.vec 2, .nilsl, .int .i64 (-1)]), (2, .vec 9 1 (drvB v i).n (fun j => [.str ((drvB v i).f j)]))]⟩ := by
  intro k
  induction k with
  | zero =>
    intro i hi
    obtain rfl : i = v.n := by omega
    apply w74v_2 v (zer 128) (drvB v v.n) v.n
    case c_f => intro _; rfl
    all_goals (intro h; simp only [decide_eq_true_eq] at h; omega)
  | succ k ih =>
    intro i hi
    have hw := wrap_succ (i := i) (n := v.n) (by omega) (by omega)
    have hbd : (0 : Int) ≤ i ∧ (i : Int) < v.n := by omega
    apply w74v_2 v (zer 128) (drvB v i) i
    case c_tt => intro _ h; simp only [Int.toNat_natCast, bne_iff_ne] at h; have := hs i (by omega); omega
    case c_tf =>
      intro _ _
      refine ⟨hbd, hbd, lim16 (by simp only [drvB]; omega), ?_⟩
      rw [hw]
      refine GoToE.reVec 2 (n' := 33 + (i + 1)) (g' := fun j => [.str ((drvB v (i + 1)).f j)]) rfl (by simp only [drvB]; omega) (push_str (fun j hj => rfl) ?_) (ih (i + 1) (by omega))
      show [V.str (v.f ((i : Int)).toNat)] = [V.str (if 33 + i < 33 then zer 128 else v.f (33 + i - 33))]
      rw [if_neg (by omega), Nat.add_sub_cancel_left, Int.toNat_natCast]
    case c_f => intro h; simp only [decide_eq_false_iff_not] at h; omega

theorem dfm_at1 (v : Sq ByteArray) (hv : v.n ≤ 223) (hs : ∀ j, j < v.n → (v.f j).size = 128) : ∀ (k i : Nat), i + k = 33 → 1 ≤ i →
    GoToE Try.prog 74 (Eq (.tup [.agg [strs (drvB v v.n), .nilsl, .int .i64 (-1)], .int .i64 0])) (headOf Try.f74 0) ⟨50, 1000, [(0, strs v), (2, .ptr 0 0), (4, .ptr 1 0), (5, .int .i64 i)], [(0, .cells 28 [.nilsl, .nilsl, .int .i64 ((0 : Int))]), (1, .cells 28 [.vec 2, .nilsl, .int .i64 (-1)]), (2, .vec 9 1 (drvA i).n (fun j => [.str ((drvA i).f j)]))]⟩ := by
  intro k
  induction k with
  | zero =>
    intro i hi h1
    obtain rfl : i = 33 := by omega
    apply w74v_1 v (zer 128) (drvA 33) ((33 : Nat) : Int)
    case c_t => intro h; simp only [decide_eq_true_eq] at h; omega
    case c_f =>
      intro _
      refine GoToE.reVec 2 (n' := 33 + 0) (g' := fun j => [.str ((drvB v 0).f j)]) rfl rfl (fun j hj => ?_) (dfm_at2 v hv hs v.n 0 (by omega))
      have hj : j < 33 := hj
      simp only [drvA, drvB]; rw [if_pos hj]
  | succ k ih =>
    intro i hi h1
    have hw := wrap_succ (i := i) (n := 33) (by omega) (by omega)
    apply w74v_1 v (zer 128) (drvA i) i
    case c_t =>
      intro _
      refine ⟨zeros2_spec 128 (by omega), lim16 (by simp only [drvA]; omega), ?_⟩
      rw [hw]
      refine GoToE.reVec 2 (n' := i + 1) (g' := fun j => [.str ((drvA (i + 1)).f j)]) rfl rfl (push_str (fun j hj => rfl) rfl) (ih (i + 1) (by omega) (by omega))
    case c_f => intro h; simp only [decide_eq_false_iff_not] at h; omega

theorem fmt16_spec (v : Sq ByteArray) (h1 : 1 ≤ v.n) (hv : v.n ≤ 223) (hs : ∀ j, j < v.n → (v.f j).size = 128) : SpecD Try.prog 74 [strs v] (.tup [.agg (drvOf v).e, .int .i64 0]) := by
  have h : SpecD Try.prog 74 [strs v] (.tup [.agg [strs (drvB v v.n), .nilsl, .int .i64 (-1)], .int .i64 0]) := by
    refine (specE_of (Try.func74) (by kernel_rfl) (by kernel_rfl) (by kernel_rfl) ?_).eq
    apply w74_0 v (zer 128)
    case c_t => intro h; simp only [decide_eq_true_eq] at h; omega
    case c_ft => intro _ h; simp only [decide_eq_true_eq] at h; omega
    case c_ff =>
      intro _ _
      refine w74_1 v (zer 128) ⟨zeros2_spec 128 (by omega), ⟨by decide, by decide⟩, ?_⟩
      rw [wrap01]
      refine GoToE.reVec 2 (n' := 1) (g' := fun j => [.str ((drvA 1).f j)]) rfl rfl (fun j hj => ?_) (dfm_at1 v hv hs 32 1 (by omega) (by omega))
      have hj : j < 1 := hj
      obtain rfl : j = 0 := by omega
      rfl
  exact h.le (.tup (.cons (.agg (.cons (.refl _) (.cons (Le.nil 2 _) (.cons (.refl _) .nil)))) (.cons (.refl _) .nil)))
end Go.Hb
