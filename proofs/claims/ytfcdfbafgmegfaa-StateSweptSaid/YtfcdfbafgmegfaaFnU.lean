/-
  THE FUNCTIONS, PART U: the own code's 'right' and 'Of' of a volume, 'look' and 'Check' of a drive, 'bad' of a journal, as the document's.
-/
import Derived.Test.YtfcdfbafgmegfaaFnT
namespace Go.Hb
open Go.RowKit Go.Proofs

def nrK2 (s : ByteArray) (g : Geo) : Nat → Int → Bool
  | 0, _ => true
  | k + 1, i => if bitF s i = true then false else nrK2 s g k (i + 1)
def nrK1 (s : ByteArray) (g : Geo) : Nat → Int → Bool
  | 0, _ => nrK2 s g (1024 - g.blocks).toNat g.blocks
  | k + 1, i => if bitF s i = false then false else nrK1 s g k (i + 1)

theorem nright_at2 (s : ByteArray) (g : Geo) (hs : s.size = 128) : ∀ (k : Nat) (i : Int), i + k = 1024 → 0 ≤ i →
    GoToE Try.prog 187 (fun x => Le x (.bool (nrK2 s g k i))) (headOf Try.f187 1) ⟨29, 1000, [(0, .str (s)), (6, .int .i64 i)], []⟩ := by
  have h8 : IntKind.i64.wrap (8 * (↑s.size : Int)) = 1024 := by rw [hs]; rfl
  intro k
  induction k with
  | zero =>
    intro i hi h0
    apply w187_2 s g false i
    case c_f => intro _; exact Le.tt true
    all_goals (intro h; rw [h8] at h; simp only [decide_eq_true_eq] at h; omega)
  | succ k ih =>
    intro i hi h0
    have hb := nbit_spec s i h0 (by omega) (by omega)
    have hw : IntKind.i64.wrap (i + 1) = i + 1 := IntWalk.i64_in _ (by omega)
    apply w187_2 s g (bitF s i) i
    case c_tt => intro _ h; refine ⟨hb, ?_⟩; simp only [nrK2]; rw [if_pos h]; exact Le.tt false
    case c_tf => intro _ h; refine ⟨hb, ?_⟩; simp only [nrK2]; rw [if_neg (by rw [h]; simp), hw]; exact ih (i + 1) (by omega) (by omega)
    case c_f => intro h; rw [h8] at h; simp only [decide_eq_false_iff_not] at h; omega
theorem nright_at1 (s : ByteArray) (g : Geo) (hs : s.size = 128) (hg : 0 ≤ g.blocks ∧ g.blocks ≤ 1024) (hd : g.data ≤ 1024) : ∀ (k : Nat) (i : Int), i + k = g.data → 0 ≤ i →
    GoToE Try.prog 187 (fun x => Le x (.bool (nrK1 s g k i))) (headOf Try.f187 0) ⟨29, 1000, [(0, .str (s)), (3, .ptr 0 0), (8, .int .i64 (g.data)), (9, .int .i64 i)], [(0, .cells 167 g.e)]⟩ := by
  intro k
  induction k with
  | zero =>
    intro i hi h0
    apply w187_1 s g false i
    case c_f => intro _; simp only [nrK1]; exact nright_at2 s g hs _ _ (by omega) hg.1
    all_goals (intro h; simp only [decide_eq_true_eq] at h; omega)
  | succ k ih =>
    intro i hi h0
    have hb := nbit_spec s i h0 (by omega) (by omega)
    have hw : IntKind.i64.wrap (i + 1) = i + 1 := IntWalk.i64_in _ (by omega)
    apply w187_1 s g (bitF s i) i
    case c_tt => intro _ h; refine ⟨hb, ?_⟩; simp only [Bool.not_eq_true'] at h; simp only [nrK1]; rw [if_pos h]; exact Le.tt false
    case c_tf => intro _ h; refine ⟨hb, ?_⟩; simp only [Bool.not_eq_false'] at h; simp only [nrK1]; rw [if_neg (by rw [h]; simp), hw]; exact ih (i + 1) (by omega) (by omega)
    case c_f => intro h; simp only [decide_eq_false_iff_not] at h; omega
theorem nright_spec (s : ByteArray) (g : Geo) (hs : s.size = 128) (hg : 0 ≤ g.blocks ∧ g.blocks ≤ 1024) (hd : 0 ≤ g.data ∧ g.data ≤ 1024) : SpecD Try.prog 187 [.str s, .agg g.e] (.bool (nrK1 s g g.data.toNat 0)) :=
  (specE_of (Try.func187) (by kernel_rfl) (by kernel_rfl) (by kernel_rfl) (w187_0 s g false (nright_at1 s g hs hg hd.2 g.data.toNat 0 (by omega) (by omega)))).le

/-- What the two loops say. -/
theorem nrK2_ok (s : ByteArray) (g : Geo) : ∀ (k : Nat) (i : Int), nrK2 s g k i = true ↔ ∀ t : Int, i ≤ t → t < i + k → bitF s t = false
  | 0, i => ⟨fun _ t h1 h2 => by omega, fun _ => rfl⟩
  | k + 1, i => by
    simp only [nrK2]
    by_cases h : bitF s i = true
    · rw [if_pos h]
      refine ⟨fun h => (by cases h), fun h2 => ?_⟩
      rw [h2 i (by omega) (by omega)] at h; cases h
    · rw [if_neg h, nrK2_ok s g k (i + 1)]
      refine ⟨fun h2 t h3 h4 => ?_, fun h2 t h3 h4 => h2 t (by omega) (by omega)⟩
      by_cases ht : t = i
      · subst ht; simpa using h
      · exact h2 t (by omega) (by omega)
theorem nrK1_ok (s : ByteArray) (g : Geo) : ∀ (k : Nat) (i : Int), nrK1 s g k i = true ↔ (∀ t : Int, i ≤ t → t < i + k → bitF s t = true) ∧ ∀ t : Int, g.blocks ≤ t → t < g.blocks + (1024 - g.blocks).toNat → bitF s t = false
  | 0, i => by
    simp only [nrK1]
    rw [nrK2_ok]
    exact ⟨fun h => ⟨fun t h1 h2 => by omega, h⟩, fun h => h.2⟩
  | k + 1, i => by
    simp only [nrK1]
    by_cases h : bitF s i = false
    · rw [if_pos h]
      refine ⟨fun h => (by cases h), fun h2 => ?_⟩
      rw [h2.1 i (by omega) (by omega)] at h; cases h
    · rw [if_neg h, nrK1_ok s g k (i + 1)]
      refine ⟨fun ⟨h2, h5⟩ => ⟨fun t h3 h4 => ?_, h5⟩, fun ⟨h2, h5⟩ => ⟨fun t h3 h4 => h2 t (by omega) (by omega), h5⟩⟩
      by_cases ht : t = i
      · subst ht; simpa using h
      · exact h2 t (by omega) (by omega)
theorem ofBits_ok (v : Sq ByteArray) (g : Geo) : ∀ (k i : Nat), (∀ t : Nat, i ≤ t → t < i + k → ¬ (((t : Int) < g.data ∧ bitF (v.f 2) t = false) ∨ ((t : Int) ≥ g.blocks ∧ bitF (v.f 2) t = true))) ∧ ofBits v g k i = (g, 0) ∨
    (¬ ∀ t : Nat, i ≤ t → t < i + k → ¬ (((t : Int) < g.data ∧ bitF (v.f 2) t = false) ∨ ((t : Int) ≥ g.blocks ∧ bitF (v.f 2) t = true))) ∧ ofBits v g k i = (geo0, 3)
  | 0, i => .inl ⟨fun t h1 h2 => by omega, rfl⟩
  | k + 1, i => by
    simp only [ofBits]
    by_cases h : ((i : Int) < g.data ∧ bitF (v.f 2) i = false) ∨ ((i : Int) ≥ g.blocks ∧ bitF (v.f 2) i = true)
    · rw [if_pos h]
      exact .inr ⟨fun h2 => h2 i (by omega) (by omega) h, rfl⟩
    · rw [if_neg h]
      rcases ofBits_ok v g k (i + 1) with ⟨h1, h2⟩ | ⟨h1, h2⟩
      · refine .inl ⟨fun t h3 h4 => ?_, h2⟩
        by_cases ht : t = i
        · subst ht; exact h
        · exact h1 t (by omega) (by omega)
      · exact .inr ⟨fun h3 => h1 fun t h4 h5 => h3 t (by omega) (by omega), h2⟩
theorem ofBits_right (v : Sq ByteArray) (g : Geo) (hg : 0 ≤ g.blocks ∧ g.blocks ≤ 1024) (hd : 0 ≤ g.data ∧ g.data ≤ 1024) : ofBits v g 1024 0 = if nrK1 (v.f 2) g g.data.toNat 0 = true then (g, 0) else (geo0, 3) := by
  have hiff : nrK1 (v.f 2) g g.data.toNat 0 = true ↔ ∀ t : Nat, 0 ≤ t → t < 0 + 1024 → ¬ (((t : Int) < g.data ∧ bitF (v.f 2) t = false) ∨ ((t : Int) ≥ g.blocks ∧ bitF (v.f 2) t = true)) := by
    rw [nrK1_ok]
    refine ⟨fun ⟨h1, h2⟩ t _ ht hc => ?_, fun h => ⟨fun t h1 h2 => ?_, fun t h1 h2 => ?_⟩⟩
    · rcases hc with ⟨h3, h4⟩ | ⟨h3, h4⟩
      · rw [h1 t (by omega) (by omega)] at h4; cases h4
      · rw [h2 t (by omega) (by omega)] at h4; cases h4
    · have := h t.toNat (by omega) (by omega)
      rw [show ((t.toNat : Nat) : Int) = t by omega] at this
      cases hb : bitF (v.f 2) t with
      | true => rfl
      | false => exact absurd (.inl ⟨by omega, hb⟩) this
    · have := h t.toNat (by omega) (by omega)
      rw [show ((t.toNat : Nat) : Int) = t by omega] at this
      cases hb : bitF (v.f 2) t with
      | false => rfl
      | true => exact absurd (.inr ⟨by omega, hb⟩) this
  rcases ofBits_ok v g 1024 0 with ⟨h1, h2⟩ | ⟨h1, h2⟩
  · rw [h2, if_pos (hiff.2 h1)]
  · rw [h2, if_neg (fun h => h1 (hiff.1 h))]

theorem planE_ok {x y : Int} (h : planE x y = 0) : 16 ≤ x ∧ x ≤ 223 ∧ 4 ≤ y ∧ y ≤ 64 ∧ 3 + (y + 1) / 2 < x := by
  unfold planE at h
  split at h
  · cases h
  · split at h
    · cases h
    · omega
theorem planE_small {x y : Int} (h : x < 16) : planE x y = 2 := by unfold planE; rw [if_pos (.inl h)]

theorem nof_at (v : Sq ByteArray) (hn : v.n ≤ 140737488355328) : ∀ (k i : Nat), i + k = v.n → (∀ j, j < i → (v.f j).size = 128) →
    GoToE Try.prog 139 (Eq (.tup [.agg (ofSizes v k i).1.e, .int .i64 (ofSizes v k i).2])) (headOf Try.f139 0) ⟨61, 1000, [(0, strs v), (2, .ptr 0 0), (9, strs v), (10, .int .i64 ((↑v.n : Int))), (11, .int .i64 i)], [(0, .cells 167 geo0.e)]⟩ := by
  intro k
  induction k with
  | zero =>
    intro i hi hs
    by_cases h0 : v.n = 0
    · apply w139_1 v 0 0 geo0 ⟨#[]⟩ false i
      case c_ft =>
        intro _ _
        have hp : planE v.n (ofNum v) ≠ 0 := by rw [planE_small (by omega)]; omega
        simp only [ofSizes, ofHead]; rw [if_pos hp]
      all_goals
        intros
        rename_i h1 h2
        first
          | (simp only [decide_eq_true_eq] at *; omega)
          | (simp only [beq_eq_false_iff_ne] at *; omega)
    · have hs0 := hs 0 (by omega)
      have hget := nget_spec ((v.f 0).extract 6 8) (by rw [ByteArray.size_extract]; omega)
      have hplan := nplan_spec v.n (ofNum v)
      have hb : (0 : Int) ≤ 0 ∧ (0 : Int) < v.n := by omega
      have h8 : IntKind.i64.wrap ((6 : Int) + 2) = 8 := rfl
      have hc1 : (0 : Int) ≤ 6 ∧ (6 : Int) ≤ IntKind.i64.wrap ((6 : Int) + 2) := by rw [h8]; omega
      have hc2 : IntKind.i64.wrap ((6 : Int) + 2) ≤ ((v.f (Int.toNat 0)).size : Int) := by rw [h8]; show (8 : Int) ≤ ((v.f 0).size : Int); omega
      apply w139_1 v (getF ((v.f 0).extract 6 8)) (planE v.n (ofNum v)) (planG v.n (ofNum v)) (headF (planG v.n (ofNum v))) (nrK1 (v.f 2) (planG v.n (ofNum v)) (planG v.n (ofNum v)).data.toNat 0) i
      case c_ft => intro _ h; simp only [beq_iff_eq] at h; omega
      case c_fft =>
        intro _ _ h
        simp only [bne_iff_ne] at h
        refine ⟨hb, hc1, hc2, hget, hplan, ?_⟩
        simp only [ofSizes, ofHead]; rw [if_pos h]
      case c_ffft =>
        intro _ _ h h2
        simp only [bne_eq_false_iff_eq, Bool.not_eq_true'] at h h2
        refine ⟨hb, hc1, hc2, hget, hplan, hb, nhead_spec _, ?_⟩
        have h3 : strEq (v.f 0) (headF (planG v.n (ofNum v))) = false := h2
        simp only [ofSizes, ofHead]; rw [if_neg (by omega), if_pos h3]
      case c_fffft =>
        intro _ _ h h2 h4
        simp only [bne_eq_false_iff_eq, Bool.not_eq_false', Bool.not_eq_true'] at h h2 h4
        have hk := planE_ok h
        have hG : planG v.n (ofNum v) = ⟨v.n, ofNum v, 1, 2, 3, 3 + (ofNum v + 1) / 2⟩ := by rw [planG, if_pos h]
        have hg1 : 0 ≤ (planG v.n (ofNum v)).blocks ∧ (planG v.n (ofNum v)).blocks ≤ 1024 := by rw [hG]; simp only []; omega
        have hg2 : 0 ≤ (planG v.n (ofNum v)).data ∧ (planG v.n (ofNum v)).data ≤ 1024 := by rw [hG]; simp only []; omega
        have hmap : (planG v.n (ofNum v)).map = 2 := by rw [hG]
        rw [hmap]
        refine ⟨hb, hc1, hc2, hget, hplan, hb, nhead_spec _, by omega, nright_spec _ _ (hs 2 (by omega)) hg1 hg2, ?_⟩
        have h3 : strEq (v.f 0) (headF (planG v.n (ofNum v))) = true := h2
        simp only [ofSizes, ofHead]; rw [if_neg (by omega), if_neg (by rw [h3]; simp), ofBits_right v _ hg1 hg2, if_neg (by rw [h4]; simp)]
      case c_fffff =>
        intro _ _ h h2 h4
        simp only [bne_eq_false_iff_eq, Bool.not_eq_false'] at h h2 h4
        have hk := planE_ok h
        have hG : planG v.n (ofNum v) = ⟨v.n, ofNum v, 1, 2, 3, 3 + (ofNum v + 1) / 2⟩ := by rw [planG, if_pos h]
        have hg1 : 0 ≤ (planG v.n (ofNum v)).blocks ∧ (planG v.n (ofNum v)).blocks ≤ 1024 := by rw [hG]; simp only []; omega
        have hg2 : 0 ≤ (planG v.n (ofNum v)).data ∧ (planG v.n (ofNum v)).data ≤ 1024 := by rw [hG]; simp only []; omega
        have hmap : (planG v.n (ofNum v)).map = 2 := by rw [hG]
        rw [hmap]
        refine ⟨hb, hc1, hc2, hget, hplan, hb, nhead_spec _, by omega, nright_spec _ _ (hs 2 (by omega)) hg1 hg2, ?_⟩
        have h3 : strEq (v.f 0) (headF (planG v.n (ofNum v))) = true := h2
        simp only [ofSizes, ofHead]; rw [if_neg (by omega), if_neg (by rw [h3]; simp), ofBits_right v _ hg1 hg2, if_pos h4]
      all_goals (intro h; simp only [decide_eq_true_eq] at h; omega)
  | succ k ih =>
    intro i hi hs
    have hw := wrap_succ (i := i) (n := v.n) (by omega) hn
    have hb : (0 : Int) ≤ i ∧ (i : Int) < v.n := by omega
    apply w139_1 v 0 0 geo0 ⟨#[]⟩ false i
    case c_tt => intro _ h; simp only [Int.toNat_natCast, bne_iff_ne] at h; exact ⟨hb, by simp only [ofSizes]; rw [if_pos (by omega)]⟩
    case c_tf =>
      intro _ h
      simp only [Int.toNat_natCast, bne_eq_false_iff_eq] at h
      refine ⟨hb, ?_⟩
      rw [hw]; simp only [ofSizes]; rw [if_neg (by omega)]
      refine ih (i + 1) (by omega) fun j hj => ?_
      by_cases hji : j = i
      · subst hji; omega
      · exact hs j (by omega)
    all_goals (intro h; simp only [decide_eq_false_iff_not] at h; omega)

theorem ofSizes_small (v : Sq ByteArray) (h3 : v.n < 3) : ∀ k i, ofSizes v k i = (geo0, 3)
  | 0, _ => by
    simp only [ofSizes, ofHead]
    rw [if_pos (by rw [planE_small (by omega)]; omega)]
  | k + 1, i => by
    simp only [ofSizes]
    split
    · rfl
    · exact ofSizes_small v h3 k (i + 1)
theorem nof_spec (v : Sq ByteArray) (hn : v.n ≤ 140737488355328) : SpecD Try.prog 139 [strs v] (.tup [.agg (ofF v).1.e, .int .i64 (ofF v).2]) := by
  have h := (specE_of (Try.func139) (by kernel_rfl) (by kernel_rfl) (by kernel_rfl) (w139_0 v 0 0 geo0 ⟨#[]⟩ false (nof_at v hn v.n 0 (by omega) fun j hj => absurd hj (Nat.not_lt_zero j)))).eq
  have e : ofF v = ofSizes v v.n 0 := by
    unfold ofF
    by_cases h3 : v.n < 3
    · rw [if_pos h3, ofSizes_small v h3]
    · rw [if_neg h3]
  rw [e]; exact h

/-- A drive. -/
def lookF (d : Drv) (i : Int) (s : ByteArray) : Int := if i < 0 ∨ i ≥ d.blocks.n then 2 else if s.size ≠ 128 then 3 else 0
theorem look_spec (d : Drv) (i : Int) (s : ByteArray) : SpecD Try.prog 181 [.agg d.e, .int .i64 i, .str s] (.int .i64 (lookF d i s)) := by
  refine (specE_of (Try.func181) (by kernel_rfl) (by kernel_rfl) (by kernel_rfl) ?_).eq
  apply w181_0 d i s
  case c_t => intro h; simp only [decide_eq_true_eq] at h; unfold lookF; rw [if_pos (.inl h)]
  case c_ft => intro _ h; simp only [decide_eq_true_eq] at h; unfold lookF; rw [if_pos (.inr h)]
  case c_fft => intro h1 h2 h; simp only [decide_eq_false_iff_not, bne_iff_ne] at h1 h2 h; unfold lookF; rw [if_neg (by omega), if_pos (by omega)]
  case c_fff => intro h1 h2 h; simp only [decide_eq_false_iff_not, bne_eq_false_iff_eq] at h1 h2 h; unfold lookF; rw [if_neg (by omega), if_neg (by omega)]
theorem drvK2_look (d : Drv) (k i : Nat) : drvK2 d (k + 1) i = if lookF d (d.pending.f i).n (d.pending.f i).s ≠ 0 then lookF d (d.pending.f i).n (d.pending.f i).s else drvK2 d k (i + 1) := by
  simp only [drvK2, lookF]
  by_cases h1 : (d.pending.f i).n < 0 ∨ (d.pending.f i).n ≥ d.blocks.n
  · simp only [if_pos h1]; rw [if_pos (by omega)]
  · simp only [if_neg h1]
    by_cases h2 : (d.pending.f i).s.size ≠ 128
    · simp only [if_pos h2]; rw [if_pos (by omega)]
    · simp only [if_neg h2]; rw [if_neg (by omega)]
theorem ndrv_at (d : Drv) (hp : d.pending.n ≤ 140737488355328) : ∀ (k i : Nat), i + k = d.pending.n →
    GoToE Try.prog 137 (Eq (.int .i64 (drvK2 d k i))) (headOf Try.f137 0) ⟨30, 1000, [(1, .ptr 0 0), (14, nums d.pending), (15, .int .i64 ((↑d.pending.n : Int))), (16, .int .i64 i)], [(0, .cells 28 d.e)]⟩ := by
  intro k
  induction k with
  | zero =>
    intro i hi
    apply w137_1 d false 0 i
    case c_f => intro _; rfl
    all_goals (intro h; simp only [decide_eq_true_eq] at h; omega)
  | succ k ih =>
    intro i hi
    have hw := wrap_succ (i := i) (n := d.pending.n) (by omega) hp
    have hb : (0 : Int) ≤ i ∧ (i : Int) < d.pending.n := by omega
    have hl := look_spec d (d.pending.f i).n (d.pending.f i).s
    rw [drvK2_look]
    apply w137_1 d false (lookF d (d.pending.f i).n (d.pending.f i).s) i
    case c_tt => intro _ h; simp only [bne_iff_ne] at h; refine ⟨hb, hl, ?_⟩; rw [if_pos h]
    case c_tf => intro _ h; simp only [bne_eq_false_iff_eq] at h; refine ⟨hb, hl, ?_⟩; rw [if_neg (by omega), hw]; exact ih (i + 1) (by omega)
    case c_f => intro h; simp only [decide_eq_false_iff_not] at h; omega
def bigQ (d : Drv) (j : Nat) : Bool := ((d.blocks.f j).size : Int) != 128
theorem drvK1_some (d : Drv) : ∀ (k i : Nat), drvK1 d k i = if someK (bigQ d) k i = true then 3 else drvK2 d d.pending.n 0
  | 0, _ => rfl
  | k + 1, i => by
    have e1 : someK (bigQ d) (k + 1) i = (bigQ d i || someK (bigQ d) k (i + 1)) := rfl
    rw [e1]
    by_cases h : (d.blocks.f i).size ≠ 128
    · have e2 : drvK1 d (k + 1) i = 3 := by simp only [drvK1]; rw [if_pos h]
      have e3 : bigQ d i = true := by simp only [bigQ, bne_iff_ne]; omega
      rw [e2, e3, Bool.true_or, if_pos rfl]
    · have e2 : drvK1 d (k + 1) i = drvK1 d k (i + 1) := by simp only [drvK1]; rw [if_neg h]
      have e3 : bigQ d i = false := by simp only [bigQ, bne_eq_false_iff_eq]; omega
      rw [e2, e3, Bool.false_or, drvK1_some d k (i + 1)]
theorem big1_spec (s : ByteArray) : SpecD Try.prog 180 [.str s] (.bool ((s.size : Int) != 128)) := (specE_of (Try.func180) (by kernel_rfl) (by kernel_rfl) (by kernel_rfl) (w180_0 s rfl)).eq
theorem big2_spec (s : ByteArray) : SpecD Try.prog 85 [.str s] (.bool ((s.size : Int) != 128)) := (specE_of (Try.func85) (by kernel_rfl) (by kernel_rfl) (by kernel_rfl) (w85_0 s rfl)).eq
theorem ndrv_spec (d : Drv) (hb : d.blocks.n ≤ 140737488355328) (hp : d.pending.n ≤ 140737488355328) : SpecD Try.prog 137 [.agg d.e] (.int .i64 (drvF d)) := by
  refine (specE_of (Try.func137) (by kernel_rfl) (by kernel_rfl) (by kernel_rfl) ?_).eq
  have hh := hasS_spec d.blocks 180 (bigQ d) hb fun i _ => big1_spec _
  apply w137_0 d (someK (bigQ d) d.blocks.n 0)
  case c_t => intro h; simp only [decide_eq_true_eq] at h; unfold drvF; rw [if_pos (by omega)]
  case c_ft => intro h h2; simp only [decide_eq_false_iff_not] at h; refine ⟨hh, ?_⟩; unfold drvF; rw [if_neg (by omega), drvK1_some, if_pos h2]
  case c_ff => intro h h2; simp only [decide_eq_false_iff_not] at h; refine ⟨hh, ?_⟩; unfold drvF; rw [if_neg (by omega), drvK1_some, if_neg (by rw [h2]; simp)]; exact ndrv_at d hp d.pending.n 0 (by omega)
theorem nbad_spec (d : Drv) (hb : d.blocks.n ≤ 140737488355328) (hp : d.pending.n ≤ 140737488355328) : SpecD Try.prog 182 [.agg d.e] (.int .i64 (badF d)) := by
  refine (specE_of (Try.func182) (by kernel_rfl) (by kernel_rfl) (by kernel_rfl) ?_).eq
  have hs := ndrv_spec d hb hp
  apply w182_0 d (drvF d)
  case c_t => intro h; simp only [bne_iff_ne] at h; exact ⟨hs, by unfold badF; rw [if_pos h]⟩
  case c_ft => intro h h2; simp only [bne_eq_false_iff_eq, decide_eq_true_eq] at h h2; exact ⟨hs, by unfold badF; rw [if_neg (by omega), if_pos (by omega)]⟩
  case c_ff => intro h h2; simp only [bne_eq_false_iff_eq, decide_eq_false_iff_not] at h h2; exact ⟨hs, by unfold badF; rw [if_neg (by omega), if_neg (by omega)]⟩
end Go.Hb
