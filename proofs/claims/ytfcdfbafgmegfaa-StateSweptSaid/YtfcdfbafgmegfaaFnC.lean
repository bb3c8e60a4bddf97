/-
  THE FUNCTIONS, PART C: drives and volumes of the document.
-/
import Derived.Test.YtfcdfbafgmegfaaFnB
namespace Go.Hb
open Go.RowKit Go.Proofs

/-- Where things are on a volume. -/
structure Geo where
  blocks : Int
  inodes : Int
  quota : Int
  map : Int
  table : Int
  data : Int
def Geo.e (g : Geo) : List V := [.int .i64 g.blocks, .int .i64 g.inodes, .int .i64 g.quota, .int .i64 g.map, .int .i64 g.table, .int .i64 g.data]
def geo0 : Geo := ⟨0, 0, 0, 0, 0, 0⟩

def planE (x y : Int) : Int := if x < 16 ∨ x > 223 ∨ y < 4 ∨ y > 64 then 2 else if 3 + (y + 1) / 2 ≥ x then 10 else 0
def planG (x y : Int) : Geo := if planE x y = 0 then ⟨x, y, 1, 2, 3, 3 + (y + 1) / 2⟩ else geo0

theorem plan_spec (x y : Int) : SpecD Try.prog 124 [.int .i64 x, .int .i64 y] (.tup [.agg (planG x y).e, .int .i64 (planE x y)]) := by
  refine (specE_of (Try.func124) (by kernel_rfl) (by kernel_rfl) (by kernel_rfl) ?_).eq
  have hbad : planE x y = 2 → Eq (V.tup [.agg (planG x y).e, .int .i64 (planE x y)]) (.tup [.agg [.int .i64 ((0 : Int)), .int .i64 ((0 : Int)), .int .i64 ((0 : Int)), .int .i64 ((0 : Int)), .int .i64 ((0 : Int)), .int .i64 ((0 : Int))], .int .i64 ((2 : Int))]) := by
    intro h; rw [planG, h]; rfl
  have hw : ¬ (y < 4) → ¬ (y > 64) → IntKind.i64.wrap ((3 : Int) + IntKind.i64.wrap ((IntKind.i64.wrap (y + (1 : Int))).tdiv (2 : Int))) = 3 + (y + 1) / 2 := by
    intro h1 h2
    rw [IntWalk.i64_in (y + 1) (by omega), IntWalk.i64_quo _ _ (by omega), IntWalk.i64_in _ (by omega)]
  apply w124_0 x y
  case c_t => intro h; simp only [decide_eq_true_eq] at h; exact hbad (by simp [planE, h])
  case c_ft => intro _ h; simp only [decide_eq_true_eq] at h; exact hbad (by simp [planE, h])
  case c_fft => intro _ _ h; simp only [decide_eq_true_eq] at h; exact hbad (by simp [planE, h])
  case c_ffft => intro _ _ _ h; simp only [decide_eq_true_eq] at h; exact hbad (by simp [planE, h])
  case c_fffft =>
    intro h1 h2 h3 h4 h5
    simp only [decide_eq_false_iff_not, decide_eq_true_eq] at h1 h2 h3 h4 h5
    rw [hw h3 h4] at h5
    have e : planE x y = 10 := by unfold planE; rw [if_neg (by omega), if_pos h5]
    exact ⟨by omega, by rw [planG, e]; rfl⟩
  case c_fffff =>
    intro h1 h2 h3 h4 h5
    simp only [decide_eq_false_iff_not] at h1 h2 h3 h4 h5
    rw [hw h3 h4] at h5 ⊢
    have e : planE x y = 0 := by unfold planE; rw [if_neg (by omega), if_neg h5]
    exact ⟨by omega, by rw [planG, e]; rfl⟩

def bitF (s : ByteArray) (y : Int) : Bool := bitAnd IntKind.u8 (shrI IntKind.u8 (↑(s.data.getD (IntKind.i64.wrap (y.tdiv (8 : Int))).toNat (0 : UInt8)).toNat : Int) (y.tmod (8 : Int))) (1 : Int) == (1 : Int)
theorem bit_spec (s : ByteArray) (y : Int) (h0 : 0 ≤ y) (h1 : y < 1024) (hs : 128 ≤ s.size) : SpecD Try.prog 193 [.str s, .int .i64 y] (.bool (bitF s y)) := by
  refine (specE_of (Try.func193) (by kernel_rfl) (by kernel_rfl) (by kernel_rfl) ?_).eq
  have e : IntKind.i64.wrap (y.tdiv (8 : Int)) = y / 8 := IntWalk.i64_quo _ _ (by omega)
  exact w193_0 s y ⟨by omega, by rw [e]; omega, by omega, Int.tmod_nonneg _ h0, rfl⟩

def headF (g : Geo) : ByteArray := ((({ data := #[(104 : UInt8), (105 : UInt8), (98 : UInt8), (49 : UInt8)] : ByteArray } ++ putF (IntKind.u64.wrap g.blocks) 2) ++ putF (IntKind.u64.wrap g.inodes) 2) ++ zer 120)
theorem head_spec (g : Geo) : SpecD Try.prog 125 [.agg g.e] (.str (headF g)) := by
  refine (specE_of (Try.func125) (by kernel_rfl) (by kernel_rfl) (by kernel_rfl) ?_).eq
  have a1 := putF_size (IntKind.u64.wrap g.blocks) 2
  have a2 := putF_size (IntKind.u64.wrap g.inodes) 2
  have b1 : ({ data := #[(104 : UInt8), (105 : UInt8), (98 : UInt8), (49 : UInt8)] : ByteArray }).size = 4 := rfl
  refine w125_0 g.blocks g.inodes g.quota g.map g.table g.data (putF (IntKind.u64.wrap g.blocks) 2) (putF (IntKind.u64.wrap g.inodes) 2) (zer 120) ⟨put_spec _ _, ?_, put_spec _ _, ?_, zeros_spec 120 (by omega), ?_, rfl⟩
  · rw [i64max, b1]; omega
  · rw [i64max, size_app, b1]; omega
  · rw [i64max, size_app, size_app, b1, size_zer]; omega

/-- Why a drive may not be. -/
def drvK2 (d : Drv) : Nat → Nat → Int
  | 0, _ => 0
  | k + 1, i => if (d.pending.f i).n < 0 ∨ (d.pending.f i).n ≥ d.blocks.n then 2 else if (d.pending.f i).s.size ≠ 128 then 3 else drvK2 d k (i + 1)
def drvK1 (d : Drv) : Nat → Nat → Int
  | 0, _ => drvK2 d d.pending.n 0
  | k + 1, i => if (d.blocks.f i).size ≠ 128 then 3 else drvK1 d k (i + 1)
def drvF (d : Drv) : Int := if d.blocks.n > 256 then 6 else drvK1 d d.blocks.n 0

theorem drv_at2 (d : Drv) (hp : d.pending.n ≤ 140737488355328) : ∀ (k i : Nat), i + k = d.pending.n →
    GoToE Try.prog 148 (Eq (.int .i64 (drvK2 d k i))) (headOf Try.f148 1) ⟨57, 1000, [(1, .ptr 0 0), (4, .int .i64 i)], [(0, .cells 28 d.e)]⟩ := by
  intro k
  induction k with
  | zero =>
    intro i hi
    apply w148_2 d i
    case c_f => intro _; rfl
    all_goals (intro h; simp only [decide_eq_true_eq] at h; omega)
  | succ k ih =>
    intro i hi
    have hw := wrap_succ (i := i) (n := d.pending.n) (by omega) hp
    have hb : (0 : Int) ≤ i ∧ (i : Int) < d.pending.n := by omega
    apply w148_2 d i
    case c_tt => intro _ h; simp only [Int.toNat_natCast, decide_eq_true_eq] at h; exact ⟨hb, by simp only [drvK2]; rw [if_pos (.inl h)]⟩
    case c_tft => intro _ _ h; simp only [Int.toNat_natCast, decide_eq_true_eq] at h; exact ⟨hb, hb, by simp only [drvK2]; rw [if_pos (.inr h)]⟩
    case c_tfft =>
      intro _ h1 h2 h3
      simp only [Int.toNat_natCast, decide_eq_false_iff_not, bne_iff_ne] at h1 h2 h3
      exact ⟨hb, hb, hb, by simp only [drvK2]; rw [if_neg (by omega), if_pos (by omega)]⟩
    case c_tfff =>
      intro _ h1 h2 h3
      simp only [Int.toNat_natCast, decide_eq_false_iff_not, bne_eq_false_iff_eq] at h1 h2 h3
      refine ⟨hb, hb, hb, ?_⟩
      rw [hw]; simp only [drvK2]; rw [if_neg (by omega), if_neg (by omega)]; exact ih (i + 1) (by omega)
    case c_f => intro h; simp only [decide_eq_false_iff_not] at h; omega

theorem drv_at1 (d : Drv) (hb : d.blocks.n ≤ 140737488355328) (hp : d.pending.n ≤ 140737488355328) : ∀ (k i : Nat), i + k = d.blocks.n →
    GoToE Try.prog 148 (Eq (.int .i64 (drvK1 d k i))) (headOf Try.f148 0) ⟨57, 1000, [(1, .ptr 0 0), (3, .int .i64 i)], [(0, .cells 28 d.e)]⟩ := by
  intro k
  induction k with
  | zero =>
    intro i hi
    apply w148_1 d i
    case c_f => intro _; exact drv_at2 d hp d.pending.n 0 (by omega)
    all_goals (intro h; simp only [decide_eq_true_eq] at h; omega)
  | succ k ih =>
    intro i hi
    have hw := wrap_succ (i := i) (n := d.blocks.n) (by omega) hb
    have hb : (0 : Int) ≤ i ∧ (i : Int) < d.blocks.n := by omega
    apply w148_1 d i
    case c_tt => intro _ h; simp only [Int.toNat_natCast, bne_iff_ne] at h; exact ⟨hb, by simp only [drvK1]; rw [if_pos (by omega)]⟩
    case c_tf =>
      intro _ h
      simp only [Int.toNat_natCast, bne_eq_false_iff_eq] at h
      refine ⟨hb, ?_⟩
      rw [hw]; simp only [drvK1]; rw [if_neg (by omega)]; exact ih (i + 1) (by omega)
    case c_f => intro h; simp only [decide_eq_false_iff_not] at h; omega

theorem drv_spec (d : Drv) (hb : d.blocks.n ≤ 140737488355328) (hp : d.pending.n ≤ 140737488355328) : SpecD Try.prog 148 [.agg d.e] (.int .i64 (drvF d)) := by
  refine (specE_of (Try.func148) (by kernel_rfl) (by kernel_rfl) (by kernel_rfl) ?_).eq
  apply w148_0 d
  case c_t => intro h; simp only [decide_eq_true_eq] at h; unfold drvF; rw [if_pos (by omega)]
  case c_f => intro h; simp only [decide_eq_false_iff_not] at h; unfold drvF; rw [if_neg (by omega)]; exact drv_at1 d hb hp d.blocks.n 0 (by omega)

/-- Why a drive has no journal. -/
def badF (d : Drv) : Int := if drvF d ≠ 0 then drvF d else if d.blocks.n ≤ 33 then 2 else 0
theorem bad_spec (d : Drv) (hb : d.blocks.n ≤ 140737488355328) (hp : d.pending.n ≤ 140737488355328) : SpecD Try.prog 190 [.agg d.e] (.int .i64 (badF d)) := by
  refine (specE_of (Try.func190) (by kernel_rfl) (by kernel_rfl) (by kernel_rfl) ?_).eq
  have hs := drv_spec d hb hp
  apply w190_0 d (drvF d)
  case c_t => intro h; simp only [bne_iff_ne] at h; exact ⟨hs, by unfold badF; rw [if_pos h]⟩
  case c_ft => intro h h2; simp only [bne_eq_false_iff_eq, decide_eq_true_eq] at h h2; exact ⟨hs, by unfold badF; rw [if_neg (by omega), if_pos (by omega)]⟩
  case c_ff => intro h h2; simp only [bne_eq_false_iff_eq, decide_eq_false_iff_not] at h h2; exact ⟨hs, by unfold badF; rw [if_neg (by omega), if_neg (by omega)]⟩

/-- A block as it was last written. -/
def lastK (l : Sq Num) (y : Int) : Nat → Nat → ByteArray → ByteArray
  | 0, _, s => s
  | k + 1, i, s => lastK l y k (i + 1) (if (l.f i).n = y then (l.f i).s else s)
theorem block_at (d : Drv) (hp : d.pending.n ≤ 140737488355328) (y : Int) : ∀ (k i : Nat) (s : ByteArray), i + k = d.pending.n →
    GoToE Try.prog 191 (Eq (.tup [.str (lastK d.pending y k i s), .int .i64 0])) (headOf Try.f191 0) ⟨44, 1000, [(1, .int .i64 (y)), (2, .ptr 0 0), (6, .str s), (7, .int .i64 i)], [(0, .cells 28 d.e)]⟩ := by
  intro k
  induction k with
  | zero =>
    intro i s hi
    apply w191_1 d y s i
    case c_f => intro _; rfl
    all_goals (intro h; simp only [decide_eq_true_eq] at h; omega)
  | succ k ih =>
    intro i s hi
    have hw := wrap_succ (i := i) (n := d.pending.n) (by omega) hp
    have hb : (0 : Int) ≤ i ∧ (i : Int) < d.pending.n := by omega
    apply w191_1 d y s i
    case c_tt =>
      intro _ h
      simp only [Int.toNat_natCast, beq_iff_eq] at h
      refine ⟨hb, hb, ?_⟩
      rw [hw]; simp only [lastK]; rw [if_pos h]; exact ih (i + 1) _ (by omega)
    case c_tf =>
      intro _ h
      simp only [Int.toNat_natCast, beq_eq_false_iff_ne] at h
      refine ⟨hb, ?_⟩
      rw [hw]; simp only [lastK]; rw [if_neg h]; exact ih (i + 1) _ (by omega)
    case c_f => intro h; simp only [decide_eq_false_iff_not] at h; omega

def blockF (d : Drv) (i : Nat) : ByteArray := lastK d.pending i d.pending.n 0 (d.blocks.f i)
theorem block_spec (d : Drv) (hp : d.pending.n ≤ 140737488355328) (i : Nat) (hi : i < d.blocks.n) : SpecD Try.prog 191 [.agg d.e, .int .i64 i] (.tup [.str (blockF d i), .int .i64 0]) := by
  refine (specE_of (Try.func191) (by kernel_rfl) (by kernel_rfl) (by kernel_rfl) ?_).eq
  apply w191_0 d i
  case c_t => intro h; simp only [decide_eq_true_eq] at h; omega
  case c_ft => intro _ h; simp only [decide_eq_true_eq] at h; omega
  case c_ff => intro _ _; exact ⟨by omega, block_at d hp i d.pending.n 0 _ (by omega)⟩

theorem badF_zero {d : Drv} (h : badF d = 0) : d.blocks.n ≤ 256 ∧ 33 < d.blocks.n := by
  unfold badF at h
  split at h
  · contradiction
  · split at h
    · cases h
    · rename_i h1 h2
      refine ⟨?_, by omega⟩
      unfold drvF at h1
      split at h1
      · exact absurd (by decide) h1
      · omega

/-- The volume. -/
def homeF (d : Drv) : Sq ByteArray := if badF d ≠ 0 then ⟨0, fun _ => ⟨#[]⟩⟩ else ⟨d.blocks.n - 33, fun i => blockF d (33 + i)⟩

theorem home_at (d : Drv) (hp : d.pending.n ≤ 140737488355328) (hb : badF d = 0) : ∀ (k i : Nat), i + k = d.blocks.n - 33 →
    GoToE Try.prog 149 (Eq (strs (homeF d))) (headOf Try.f149 0) ⟨30, 1000, [(1, .ptr 0 0), (3, .vec 1), (4, .int .i64 ((33 + i : Nat) : Int))], [(0, .cells 28 d.e), (1, .vec 9 1 i fun i => [.str (blockF d (33 + i))])]⟩ := by
  have hz := badF_zero hb
  intro k
  induction k with
  | zero =>
    intro i hi
    apply w149_1 d 0 ⟨i, fun i => blockF d (33 + i)⟩ ⟨#[]⟩ 0 ((33 + i : Nat) : Int)
    case c_f => intro _; rw [homeF, if_neg (by omega), show i = d.blocks.n - 33 by omega]
    all_goals (intro h; simp only [decide_eq_true_eq] at h; omega)
  | succ k ih =>
    intro i hi
    have hw := wrap_succ (i := 33 + i) (n := d.blocks.n) (by omega) (by omega)
    apply w149_1 d 0 ⟨i, fun i => blockF d (33 + i)⟩ (blockF d (33 + i)) 0 ((33 + i : Nat) : Int)
    case c_t =>
      intro _
      refine ⟨block_spec d hp (33 + i) (by omega), ?_, ?_⟩
      · have : (65536 : Nat) ≤ maxLen := by decide
        simp only []; omega
      · rw [hw]
        refine GoToE.reVec 1 rfl rfl (fun j hj => ?_) (ih (i + 1) (by omega))
        have hj : j < i + 1 := hj
        simp only [joinF]
        by_cases hji : j < i
        · rw [if_pos hji]
        · rw [if_neg hji, show j = i by omega, Nat.sub_self]; rfl
    case c_f => intro h; simp only [decide_eq_false_iff_not] at h; omega

theorem home_spec (d : Drv) (hb : d.blocks.n ≤ 140737488355328) (hp : d.pending.n ≤ 140737488355328) : SpecD Try.prog 149 [.agg d.e] (strs (homeF d)) := by
  refine (specE_of (Try.func149) (by kernel_rfl) (by kernel_rfl) (by kernel_rfl) ?_).le
  have hs := bad_spec d hb hp
  apply w149_0 d (badF d)
  case c_t =>
    intro h
    simp only [bne_iff_ne] at h
    refine ⟨hs, ?_⟩
    rw [homeF, if_pos h]
    exact Le.seq rfl fun i hi => absurd hi (Nat.not_lt_zero i)
  case c_f =>
    intro h
    simp only [bne_eq_false_iff_eq] at h
    refine ⟨hs, ?_⟩
    refine GoToE.reVec 1 (g' := fun i => [.str (blockF d (33 + i))]) rfl rfl (fun j hj => absurd hj (Nat.not_lt_zero j)) ?_
    exact (home_at d hp h (d.blocks.n - 33) 0 (by omega)).mono fun r hr => Le.of_eq hr.symm
end Go.Hb
