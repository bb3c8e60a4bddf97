/-
  THE FUNCTIONS, PART D: the document's volume of a machine, and its disk.
-/
import Derived.Test.YtfcdfbafgmegfaaWkC
namespace Go.Hb
open Go.RowKit Go.Proofs

def volK (l : Sq Num) : Nat → Nat → Sq ByteArray → Sq ByteArray
  | 0, _, v => v
  | k + 1, i, v => volK l k (i + 1) (if 0 ≤ (l.f i).n ∧ (l.f i).n < v.n then ⟨v.n, fun j => if j = (l.f i).n.toNat then (l.f i).s else v.f j⟩ else v)
def volF (m : Mac) : Sq ByteArray := volK m.dirty m.dirty.n 0 (homeF m.drive)

theorem vol_at (m : Mac) (hd : m.dirty.n ≤ 140737488355328) : ∀ (k i : Nat) (v : Sq ByteArray), i + k = m.dirty.n →
    GoToE Try.prog 151 (Eq (strs (volK m.dirty k i v))) (headOf Try.f151 0) ⟨36, 1000, [(3, .vec 0), (12, nums m.dirty), (13, .int .i64 ((↑m.dirty.n : Int))), (14, .int .i64 i)], [(0, .vec 9 1 v.n fun i => [.str (v.f i)])]⟩ := by
  intro k
  induction k with
  | zero =>
    intro i v hi
    apply w151_1 m ⟨0, fun _ => ⟨#[]⟩⟩ v i
    case c_f => intro _; rfl
    all_goals (intro h; simp only [decide_eq_true_eq] at h; omega)
  | succ k ih =>
    intro i v hi
    have hw := wrap_succ (i := i) (n := m.dirty.n) (by omega) hd
    have hb : (0 : Int) ≤ i ∧ (i : Int) < m.dirty.n := by omega
    apply w151_1 m ⟨0, fun _ => ⟨#[]⟩⟩ v i
    case c_ttt =>
      intro _ h1 h2
      simp only [Int.toNat_natCast, decide_eq_true_eq] at h1 h2
      refine ⟨hb, ⟨h1, h2⟩, by simp only [Int.toNat_natCast]; omega, ?_⟩
      rw [hw]; simp only [volK]; rw [if_pos ⟨h1, h2⟩]
      refine GoToE.reVec 0 rfl rfl (fun j hj => ?_) (ih (i + 1) _ (by omega))
      simp only [Int.toNat_natCast]
      by_cases hji : j = (m.dirty.f i).n.toNat
      · rw [if_pos hji, if_pos hji]; rfl
      · rw [if_neg hji, if_neg hji]
    case c_ttf =>
      intro _ h1 h2
      simp only [Int.toNat_natCast, decide_eq_false_iff_not] at h2
      refine ⟨hb, ?_⟩
      rw [hw]; simp only [volK]; rw [if_neg fun h => h2 h.2]; exact ih (i + 1) v (by omega)
    case c_tf =>
      intro _ h1
      simp only [Int.toNat_natCast, decide_eq_false_iff_not] at h1
      refine ⟨hb, ?_⟩
      rw [hw]; simp only [volK]; rw [if_neg fun h => h1 h.1]; exact ih (i + 1) v (by omega)
    case c_f => intro h; simp only [decide_eq_false_iff_not] at h; omega

theorem home_n (d : Drv) : (homeF d).n ≤ 256 := by
  unfold homeF
  split
  · simp
  · rename_i h; have := badF_zero (by omega : badF d = 0); simp only []; omega

theorem vol_spec (m : Mac) (hd : m.dirty.n ≤ 140737488355328) (hb : m.drive.blocks.n ≤ 140737488355328) (hp : m.drive.pending.n ≤ 140737488355328) : SpecD Try.prog 151 [.agg m.e] (strs (volF m)) := by
  refine (specE_of (Try.func151) (by kernel_rfl) (by kernel_rfl) (by kernel_rfl) ?_).eq
  have hn := home_n m.drive
  have : (65536 : Nat) ≤ maxLen := by decide
  refine w151_0 m (homeF m.drive) ⟨home_spec _ hb hp, by omega, by omega, ?_⟩
  refine GoToE.reVec 0 (n' := (homeF m.drive).n) (g' := fun i => [.str ((homeF m.drive).f i)]) rfl (by omega) (fun j hj => ?_) (vol_at m hd m.dirty.n 0 _ (by omega))
  simp [joinF]

def ofBits (v : Sq ByteArray) (g : Geo) : Nat → Nat → Geo × Int
  | 0, _ => (g, 0)
  | k + 1, i => if ((i : Int) < g.data ∧ bitF (v.f 2) i = false) ∨ ((i : Int) ≥ g.blocks ∧ bitF (v.f 2) i = true) then (geo0, 3) else ofBits v g k (i + 1)
def ofNum (v : Sq ByteArray) : Int := IntKind.i64.wrap (getF ((v.f 0).extract 6 8))
def ofHead (v : Sq ByteArray) : Geo × Int :=
  if planE v.n (ofNum v) ≠ 0 then (geo0, 3) else if strEq (v.f 0) (headF (planG v.n (ofNum v))) = false then (geo0, 3) else ofBits v (planG v.n (ofNum v)) 1024 0
def ofSizes (v : Sq ByteArray) : Nat → Nat → Geo × Int
  | 0, _ => ofHead v
  | k + 1, i => if (v.f i).size ≠ 128 then (geo0, 3) else ofSizes v k (i + 1)
def ofF (v : Sq ByteArray) : Geo × Int := if v.n < 3 then (geo0, 3) else ofSizes v v.n 0

theorem of_at2 (v : Sq ByteArray) (g : Geo) (hv : 3 ≤ v.n) (hs : (v.f 2).size = 128) : ∀ (k i : Nat), i + k = 1024 →
    GoToE Try.prog 150 (Eq (.tup [.agg (ofBits v g k i).1.e, .int .i64 (ofBits v g k i).2])) (headOf Try.f150 1) ⟨78, 1000, [(0, strs v), (2, .ptr 0 0), (6, .ptr 1 0), (8, .int .i64 i)], [(0, .cells 167 geo0.e), (1, .cells 167 g.e)]⟩ := by
  intro k
  induction k with
  | zero =>
    intro i hi
    apply w150_2 v 0 0 g ⟨#[]⟩ i false
    case c_f => intro _; rfl
    all_goals (intro h; simp only [decide_eq_true_eq] at h; omega)
  | succ k ih =>
    intro i hi
    have hw := wrap_succ (i := i) (n := 1024) (by omega) (by omega)
    have hb : (0 : Int) ≤ 2 ∧ (2 : Int) < v.n := by omega
    have hbit := bit_spec (v.f 2) i (by omega) (by omega) (by omega)
    have hstop : ((i : Int) < g.data ∧ bitF (v.f 2) i = false) ∨ ((i : Int) ≥ g.blocks ∧ bitF (v.f 2) i = true) → Eq (V.tup [.agg (ofBits v g (k + 1) i).1.e, .int .i64 (ofBits v g (k + 1) i).2]) (.tup [.agg geo0.e, .int .i64 3]) := by
      intro h; simp only [ofBits]; rw [if_pos h]
    have hgo : ¬ (((i : Int) < g.data ∧ bitF (v.f 2) i = false) ∨ ((i : Int) ≥ g.blocks ∧ bitF (v.f 2) i = true)) →
        GoToE Try.prog 150 (Eq (.tup [.agg (ofBits v g (k + 1) i).1.e, .int .i64 (ofBits v g (k + 1) i).2])) (headOf Try.f150 1) ⟨78, 1000, [(0, strs v), (2, .ptr 0 0), (6, .ptr 1 0), (8, .int .i64 (IntKind.i64.wrap ((i : Int) + 1)))], [(0, .cells 167 geo0.e), (1, .cells 167 g.e)]⟩ := by
      intro h; rw [hw]; simp only [ofBits]; rw [if_neg h]; exact ih (i + 1) (by omega)
    apply w150_2 v 0 0 g ⟨#[]⟩ i (bitF (v.f 2) i)
    case c_ttt => intro h1 h2 h3; simp only [decide_eq_true_eq, Bool.not_eq_true'] at h2 h3; exact ⟨hb, hbit, hstop (.inl ⟨h2, h3⟩)⟩
    case c_ttftt => intro h1 h2 h3 h4 h5; simp only [decide_eq_true_eq] at h4; exact ⟨hb, hbit, hb, hbit, hstop (.inr ⟨h4, h5⟩)⟩
    case c_ttftf => intro h1 h2 h3 h4 h5; rw [h5] at h3; cases h3
    case c_ttff => intro h1 h2 h3 h4; simp only [decide_eq_false_iff_not, Bool.not_eq_false'] at h3 h4; exact ⟨hb, hbit, hgo (by rw [h3]; simp; omega)⟩
    case c_tftt => intro h1 h2 h3 h4; simp only [decide_eq_true_eq] at h3; exact ⟨hb, hbit, hstop (.inr ⟨h3, h4⟩)⟩
    case c_tftf => intro h1 h2 h3 h4; simp only [decide_eq_false_iff_not] at h2; exact ⟨hb, hbit, hgo (by rw [h4]; simp; omega)⟩
    case c_tff => intro h1 h2 h3; simp only [decide_eq_false_iff_not] at h2 h3; exact hgo (by omega)
    case c_f => intro h1; simp only [decide_eq_false_iff_not] at h1; omega

theorem of_at1 (v : Sq ByteArray) (hv : 3 ≤ v.n) (hn : v.n ≤ 140737488355328) : ∀ (k i : Nat), i + k = v.n → (∀ j, j < i → (v.f j).size = 128) →
    GoToE Try.prog 150 (Eq (.tup [.agg (ofSizes v k i).1.e, .int .i64 (ofSizes v k i).2])) (headOf Try.f150 0) ⟨78, 1000, [(0, strs v), (2, .ptr 0 0), (13, strs v), (14, .int .i64 ((↑v.n : Int))), (15, .int .i64 i)], [(0, .cells 167 geo0.e)]⟩ := by
  intro k
  induction k with
  | zero =>
    intro i hi hs
    have h0 := hs 0 (by omega)
    have hget := get_spec ((v.f 0).extract 6 8) (by rw [ByteArray.size_extract]; omega)
    have hplan := plan_spec v.n (ofNum v)
    have hb : (0 : Int) ≤ 0 ∧ (0 : Int) < v.n := by omega
    apply w150_1 v (getF ((v.f 0).extract 6 8)) (planE v.n (ofNum v)) (planG v.n (ofNum v)) (headF (planG v.n (ofNum v))) i
    case c_ft =>
      intro _ h
      simp only [bne_iff_ne] at h
      refine ⟨hb, by omega, by show (8 : Int) ≤ ((v.f 0).size : Int); omega, hget, hplan, ?_⟩
      simp only [ofSizes, ofHead]; rw [if_pos h]
    case c_fft =>
      intro _ h h2
      simp only [bne_eq_false_iff_eq, Bool.not_eq_true'] at h h2
      refine ⟨hb, by omega, by show (8 : Int) ≤ ((v.f 0).size : Int); omega, hget, hplan, hb, head_spec _, ?_⟩
      have h3 : strEq (v.f 0) (headF (planG v.n (ofNum v))) = false := h2
      simp only [ofSizes, ofHead]; rw [if_neg (by omega), if_pos h3]
    case c_fff =>
      intro _ h h2
      simp only [bne_eq_false_iff_eq, Bool.not_eq_false'] at h h2
      refine ⟨hb, by omega, by show (8 : Int) ≤ ((v.f 0).size : Int); omega, hget, hplan, hb, head_spec _, ?_⟩
      have h3 : strEq (v.f 0) (headF (planG v.n (ofNum v))) = true := h2
      simp only [ofSizes, ofHead]; rw [if_neg (by omega), if_neg (by rw [h3]; simp)]
      exact of_at2 v _ hv (hs 2 (by omega)) 1024 0 (by omega)
    all_goals (intro h; simp only [decide_eq_true_eq] at h; omega)
  | succ k ih =>
    intro i hi hs
    have hw := wrap_succ (i := i) (n := v.n) (by omega) hn
    have hb : (0 : Int) ≤ i ∧ (i : Int) < v.n := by omega
    apply w150_1 v 0 0 geo0 ⟨#[]⟩ i
    case c_tt => intro _ h; simp only [Int.toNat_natCast, bne_iff_ne] at h; exact ⟨hb, by simp only [ofSizes]; rw [if_pos (by omega)]⟩
    case c_tf =>
      intro _ h
      simp only [Int.toNat_natCast, bne_eq_false_iff_eq] at h
      refine ⟨hb, ?_⟩
      rw [hw]; simp only [ofSizes]; rw [if_neg (by omega)]
      refine ih (i + 1) (by omega) fun j hj => ?_
      by_cases hji : j = i
      · subst hji; omega
      · exact hs j (by omega)
    all_goals (intro h; simp only [decide_eq_false_iff_not] at h; omega)

theorem of_spec (v : Sq ByteArray) (hn : v.n ≤ 140737488355328) : SpecD Try.prog 150 [strs v] (.tup [.agg (ofF v).1.e, .int .i64 (ofF v).2]) := by
  refine (specE_of (Try.func150) (by kernel_rfl) (by kernel_rfl) (by kernel_rfl) ?_).eq
  apply w150_0 v 0 0 geo0 ⟨#[]⟩
  case c_t => intro h; simp only [decide_eq_true_eq] at h; simp only [ofF]; rw [if_pos (by omega)]
  case c_f => intro h; simp only [decide_eq_false_iff_not] at h; simp only [ofF]; rw [if_neg (by omega)]; exact of_at1 v (by omega) hn v.n 0 (by omega) fun j hj => absurd hj (Nat.not_lt_zero j)
end Go.Hb
