/-
  THE FUNCTIONS, PART OC: the frames that nobody has, as the own code and the document tell them; 'StateChecks' hands back true.
-/
import Derived.Test.YtfcdfbafgmegfaaFnZ
import Derived.Test.YtfcdfbafgmegfaaFoB
import Derived.Test.YtfcdfbafgmegfaaFnM
import Derived.Test.YtfcdfbafgmegfaaWkU
namespace Go.Hb
open Go.RowKit Go.Proofs
set_option maxRecDepth 100000

/-- The first n numbers that are. -/
def selN (q : Nat → Bool) : Nat → Sq Int
  | 0 => ⟨0, fun _ => 0⟩
  | i + 1 => if q i then (selN q i).snoc i else selN q i
theorem selN_le (q : Nat → Bool) : ∀ i, (selN q i).n ≤ i
  | 0 => Nat.le_refl 0
  | i + 1 => by
    have := selN_le q i
    simp only [selN]
    split
    · show (selN q i).n + 1 ≤ i + 1; omega
    · omega
def freeQ (m : Mac) (i : Nat) : Bool := usersF m i == 0
def freeL (m : Mac) : Sq Int := selN (freeQ m) m.frames.n

theorem rfree_at (m : Mac) (hn : m.procs.n ≤ 140737488355328) (hf : m.frames.n ≤ 4096) : ∀ (k i : Nat), i + k = m.frames.n →
    GoToE Try.prog 48 (Eq (ints (freeL m))) (headOf Try.f48 0) ⟨22, 1000, [(1, .ptr 0 0), (3, .vec 1), (8, .int .i64 ((↑m.frames.n : Int))), (9, .int .i64 i)], [(0, .cells 30 m.e), (1, .vec 3 1 (selN (freeQ m) i).n fun j => [.int .i64 ((selN (freeQ m) i).f j)])]⟩ := by
  intro k
  induction k with
  | zero =>
    intro i hi
    obtain rfl : i = m.frames.n := by omega
    apply w48_1 m 0 (selN (freeQ m) m.frames.n) m.frames.n
    case c_f => intro _; rfl
    all_goals (intro h; simp only [decide_eq_true_eq] at h; omega)
  | succ k ih =>
    intro i hi
    have hw := wrap_succ (i := i) (n := m.frames.n) (by omega) (by omega)
    have hu := users_spec m i hn
    have hle := selN_le (freeQ m) i
    have : (65536 : Nat) ≤ maxLen := by decide
    have ih := ih (i + 1) (by omega)
    apply w48_1 m (usersF m i) (selN (freeQ m) i) i
    case c_tt =>
      intro _ h
      simp only [beq_iff_eq] at h
      have hq : freeQ m i = true := by simp only [freeQ, beq_iff_eq]; omega
      refine ⟨hu, by omega, ?_⟩
      rw [hw]
      simp only [selN, hq, if_true] at ih
      refine GoToE.reVec 1 rfl rfl (fun j hj => ?_) ih
      have hj : j < (selN (freeQ m) i).n + 1 := hj
      simp only [joinF, Sq.snoc]
      by_cases hlt : j < (selN (freeQ m) i).n
      · rw [if_pos hlt, if_pos hlt]
      · rw [if_neg hlt, if_neg hlt, show j = (selN (freeQ m) i).n by omega, Nat.sub_self]; rfl
    case c_tf =>
      intro _ h
      simp only [beq_eq_false_iff_ne] at h
      have hq : freeQ m i = false := by simp only [freeQ, beq_eq_false_iff_ne]; omega
      refine ⟨hu, ?_⟩
      rw [hw]
      simp only [selN, hq] at ih
      exact ih
    case c_f => intro h; simp only [decide_eq_false_iff_not] at h; omega
theorem rfree_spec (m : Mac) (hn : m.procs.n ≤ 140737488355328) (hf : m.frames.n ≤ 4096) : SpecD Try.prog 48 [.agg m.e] (ints (freeL m)) := by
  refine (specE_of (Try.func48) (by kernel_rfl) (by kernel_rfl) (by kernel_rfl) ?_).eq
  refine w48_0 m 0 ?_
  exact GoToE.reVec 1 (g' := fun j => [.int .i64 ((selN (freeQ m) 0).f j)]) rfl rfl (fun j hj => absurd hj (Nat.not_lt_zero j)) (rfree_at m hn hf m.frames.n 0 (by omega))

/-- The own code's map: whose frame is met. -/
def Met (m : Mac) (l : List Int) (f : Int → Option Bool) : Prop := ∀ y, (f y).getD false = true ↔ y ∈ l
theorem Met.set {m : Mac} {l : List Int} {f : Int → Option Bool} (h : Met m l f) (y : Int) : Met m (l ++ [y]) (setM f y true) := fun z => by
  unfold setM
  by_cases hz : z = y
  · rw [if_pos hz]; simp [hz]
  · rw [if_neg hz, h z]; simp [hz]

theorem nfree_at2v (m : Mac) (c : Nat) (f : Int → Option Bool) (hm : ∀ i : Nat, i < m.frames.n → (!(f i).getD false) = freeQ m i) (hf : m.frames.n ≤ 4096) : ∀ (k i : Nat), i + k = m.frames.n →
    GoToE Try.prog 46 (fun x => Le x (ints (freeL m))) (headOf Try.f46 2) ⟨46, 1000, [(3, .map 0), (8, .vec 1), (32, .int .i64 ((↑m.frames.n : Int))), (33, .int .i64 i)], [(0, .mapB c f), (1, .vec 3 1 (selN (freeQ m) i).n fun j => [.int .i64 ((selN (freeQ m) i).f j)])]⟩ := by
  intro k
  induction k with
  | zero =>
    intro i hi
    obtain rfl : i = m.frames.n := by omega
    apply w46v_3 m c f (selN (freeQ m) m.frames.n) m.frames.n
    case c_f => intro _; exact Le.refl _
    all_goals (intro h; simp only [decide_eq_true_eq] at h; omega)
  | succ k ih =>
    intro i hi
    have hw := wrap_succ (i := i) (n := m.frames.n) (by omega) (by omega)
    have hle := selN_le (freeQ m) i
    have : (65536 : Nat) ≤ maxLen := by decide
    have ih := ih (i + 1) (by omega)
    apply w46v_3 m c f (selN (freeQ m) i) i
    case c_tt =>
      intro _ h
      have hq : freeQ m i = true := by rw [← hm i (by omega)]; exact h
      refine ⟨by omega, ?_⟩
      rw [hw]
      simp only [selN, hq, if_true] at ih
      refine GoToE.reVec 1 rfl rfl (fun j hj => ?_) ih
      have hj : j < (selN (freeQ m) i).n + 1 := hj
      simp only [joinF, Sq.snoc]
      by_cases hlt : j < (selN (freeQ m) i).n
      · rw [if_pos hlt, if_pos hlt]
      · rw [if_neg hlt, if_neg hlt, show j = (selN (freeQ m) i).n by omega, Nat.sub_self]; rfl
    case c_tf =>
      intro _ h
      have hq : freeQ m i = false := by rw [← hm i (by omega)]; exact h
      rw [hw]
      simp only [selN, hq] at ih
      exact ih
    case c_f => intro h; simp only [decide_eq_false_iff_not] at h; omega
theorem nfree_at2 (m : Mac) (c : Nat) (f : Int → Option Bool) (hm : ∀ i : Nat, i < m.frames.n → (!(f i).getD false) = freeQ m i) (hf : m.frames.n ≤ 4096) : ∀ (k i : Nat), i + k = m.frames.n → (selN (freeQ m) i).n = 0 →
    GoToE Try.prog 46 (fun x => Le x (ints (freeL m))) (headOf Try.f46 2) ⟨46, 1000, [(3, .map 0), (8, .nilsl), (32, .int .i64 ((↑m.frames.n : Int))), (33, .int .i64 i)], [(0, .mapB c f)]⟩ := by
  intro k
  induction k with
  | zero =>
    intro i hi h0
    obtain rfl : i = m.frames.n := by omega
    apply w46_3 m c f m.frames.n
    case c_f =>
      intro _
      have : ints (freeL m) = .seq 1 0 fun j => [.int .i64 ((freeL m).f j)] := by unfold ints; rw [show (freeL m).n = 0 from h0]
      rw [this]; exact Le.nil 1 _
    all_goals (intro h; simp only [decide_eq_true_eq] at h; omega)
  | succ k ih =>
    intro i hi h0
    have hw := wrap_succ (i := i) (n := m.frames.n) (by omega) (by omega)
    have ih := ih (i + 1) (by omega)
    apply w46_3 m c f i
    case c_tt =>
      intro _ h
      have hq : freeQ m i = true := by rw [← hm i (by omega)]; exact h
      refine ⟨by decide, ?_⟩
      rw [hw]
      have hv := nfree_at2v m c f hm hf k (i + 1) (by omega)
      simp only [selN, hq, if_true] at hv
      refine GoToE.reVec 1 rfl (show 1 = (selN (freeQ m) i).n + 1 by omega) (fun j hj => ?_) hv
      have hj : j < 1 := hj
      obtain rfl : j = 0 := by omega
      simp only [Sq.snoc]
      rw [if_neg (by omega)]; rfl
    case c_tf =>
      intro _ h
      have hq : freeQ m i = false := by rw [← hm i (by omega)]; exact h
      rw [hw]
      refine ih ?_
      simp only [selN, hq]; exact h0
    case c_f => intro h; simp only [decide_eq_false_iff_not] at h; omega

theorem nfree_at1 (m : Mac) (p : Prc) (i : Nat) (L : List Int)
    (hout : ∀ (c : Nat) (f : Int → Option Bool), Met m (L ++ frs p 16 0) f → GoToE Try.prog 46 (fun x => Le x (ints (freeL m))) (headOf Try.f46 0) ⟨46, 1000, [(1, .ptr 0 0), (3, .map 1), (12, prcs m.procs), (13, .int .i64 ((↑m.procs.n : Int))), (14, .int .i64 (IntKind.i64.wrap ((i : Int) + 1)))], [(0, .cells 30 m.e), (1, .mapB c f)]⟩) :
    ∀ (k j : Nat) (c : Nat) (f : Int → Option Bool) (M : List Int), j + k = 16 → Met m M f → M ++ frs p k j = L ++ frs p 16 0 →
    GoToE Try.prog 46 (fun x => Le x (ints (freeL m))) (headOf Try.f46 1) ⟨46, 1000, [(1, .ptr 0 0), (3, .map 1), (12, prcs m.procs), (13, .int .i64 ((↑m.procs.n : Int))), (14, .int .i64 i), (19, .agg p.space), (20, .int .i64 j)], [(0, .cells 30 m.e), (1, .mapB c f)]⟩ := by
  intro k
  induction k with
  | zero =>
    intro j c f M hj hM hMe
    apply w46_2 m c f i j p
    case c_f =>
      intro _
      refine hout c f ?_
      rw [← hMe]; simpa only [frs, List.append_nil] using hM
    all_goals (intro h; simp only [decide_eq_true_eq] at h; omega)
  | succ k ih =>
    intro j c f M hj hM hMe
    have hw := wrap_succ (i := j) (n := 16) (by omega) (by omega)
    have hb : (0 : Int) ≤ j ∧ (j : Int) < ((16 : Nat) : Int) := by omega
    have hl : (j : Int).toNat * 3 + 3 ≤ p.space.length := by simp only [Int.toNat_natCast]; show j * 3 + 3 ≤ 48; omega
    have hp : (V.agg (p.pte (j : Int).toNat) : V) = .agg (List.take 3 (List.drop ((j : Int).toNat * 3) p.space)) := by simp only [Int.toNat_natCast]; rw [pte_ok _ (by omega)]
    apply w46_2 m c f i j p
    case c_tt =>
      intro _ h
      simp only [Int.toNat_natCast] at h
      refine ⟨hb, hl, hp, ?_⟩
      rw [hw]
      simp only [Int.toNat_natCast]
      refine ih (j + 1) _ _ (M ++ [pgFr p j]) (by omega) (hM.set _) ?_
      rw [← hMe, frs, if_pos h, List.append_assoc]; rfl
    case c_tf =>
      intro _ h
      simp only [Int.toNat_natCast] at h
      refine ⟨hb, hl, hp, ?_⟩
      rw [hw]
      refine ih (j + 1) c f M (by omega) hM ?_
      rw [← hMe, frs, if_neg (by rw [h]; simp)]
    case c_f => intro h; simp only [decide_eq_false_iff_not] at h; omega

theorem nfree_at0 (m : Mac) (hn : m.procs.n ≤ 140737488355328) (hf : m.frames.n ≤ 4096) : ∀ (k i : Nat) (c : Nat) (f : Int → Option Bool) (M : List Int), i + k = m.procs.n → Met m M f → M ++ allFrs m k i = allFrs m m.procs.n 0 →
    GoToE Try.prog 46 (fun x => Le x (ints (freeL m))) (headOf Try.f46 0) ⟨46, 1000, [(1, .ptr 0 0), (3, .map 1), (12, prcs m.procs), (13, .int .i64 ((↑m.procs.n : Int))), (14, .int .i64 i)], [(0, .cells 30 m.e), (1, .mapB c f)]⟩ := by
  intro k
  induction k with
  | zero =>
    intro i c f M hi hM hMe
    apply w46_1 m c f i
    case c_f =>
      intro _
      refine nfree_at2 m c f (fun j hj => ?_) hf m.frames.n 0 (by omega) rfl
      have hMe : M = allFrs m m.procs.n 0 := by simpa only [allFrs, List.append_nil] using hMe
      have h := hM j
      rw [hMe] at h
      unfold freeQ
      rw [users_count]
      by_cases hmem : (j : Int) ∈ allFrs m m.procs.n 0
      · rw [h.2 hmem]
        have := List.count_pos_iff.2 hmem
        symm
        rw [Bool.not_true, beq_eq_false_iff_ne]; omega
      · have h' : (f j).getD false = false := by
          cases hx : (f j).getD false with
          | false => rfl
          | true => exact absurd (h.1 hx) hmem
        rw [h', List.count_eq_zero.2 hmem]; rfl
    all_goals (intro h; simp only [decide_eq_true_eq] at h; omega)
  | succ k ih =>
    intro i c f M hi hM hMe
    have hw := wrap_succ (i := i) (n := m.procs.n) (by omega) hn
    have hb : (0 : Int) ≤ i ∧ (i : Int) < m.procs.n := by omega
    apply w46_1 m c f i
    case c_t =>
      intro _
      refine ⟨hb, ?_⟩
      simp only [Int.toNat_natCast]
      refine nfree_at1 m (m.procs.f i) i M (fun c f hm => ?_) 16 0 c f M (by omega) hM rfl
      rw [hw]
      refine ih (i + 1) c f _ (by omega) hm ?_
      rw [← hMe, List.append_assoc]; rfl
    case c_f => intro h; simp only [decide_eq_false_iff_not] at h; omega
theorem nfree_spec (m : Mac) (hn : m.procs.n ≤ 140737488355328) (hf : m.frames.n ≤ 4096) : SpecD Try.prog 46 [.agg m.e] (ints (freeL m)) :=
  (specE_of (Try.func46) (by kernel_rfl) (by kernel_rfl) (by kernel_rfl) (w46_0 m 0 (fun _ => none) (nfree_at0 m hn hf m.procs.n 0 0 (fun _ => none) [] (by omega) (fun y => by simp) rfl))).le

theorem checks_at (m : Mac) (ok : MacOk m) (id : Int) : ∀ (k i : Nat), i + k = (freeL m).n →
    GoToE Try.prog 12 (fun r => Le r (.bool true)) (headOf Try.f12 0) ⟨96, 1000, [(1, .int .i64 (id)), (2, .ptr 0 0), (6, ints (freeL m)), (7, ints (freeL m)), (40, .int .i64 ((↑(freeL m).n : Int))), (41, .int .i64 i)], [(0, .cells 30 m.e)]⟩ := by
  have hn := ok.procs
  have hl := selN_le (freeQ m) m.frames.n
  have hfr := ok.frames
  have h1 := npipe_spec m id ok.pipes
  have h2 := pipe_spec m id ok.pipes
  have h3 : SpecD Try.prog 50 [.agg m.e, .int .i64 id] (.tup [.int .i64 (endsF m id).1, .int .i64 (endsF m id).2]) := ends50_spec m id hn
  have h4 : SpecD Try.prog 51 [.agg m.e, .int .i64 id] (.tup [.int .i64 (endsF m id).1, .int .i64 (endsF m id).2]) := ends51_spec m id hn
  have h5 : EqRun Try.prog 59 (pipeF m id).1.e (pipeF m id).1.e (numEq (pipeF m id).1 (pipeF m id).1) := eqRun_of (by kernel_rfl) (by kernel_rfl)
  intro k
  induction k with
  | zero =>
    intro i hi
    apply w12_1 m id true 0 0 0 (freeL m) (freeL m) (pipeF m id).1 (pipeF m id).1 (pipeF m id).2 (pipeF m id).2 (endsF m id).1 (endsF m id).2 (endsF m id).1 (endsF m id).2 i
    case c_fttt => intro _ _ _ _; refine ⟨h1, h2, h3, h4, h5, ?_⟩; rw [show ((endsF m id).2 == (endsF m id).2) = true from beq_self_eq_true _]; exact Le.refl _
    case c_fttf => intro _ _ _ h; simp at h
    case c_ftf => intro _ _ h; simp at h
    case c_ff => intro _ h; rw [numEq_self] at h; cases h
    all_goals (intro h; simp only [decide_eq_true_eq] at h; omega)
  | succ k ih =>
    intro i hi
    have hw := wrap_succ (i := i) (n := (freeL m).n) (by omega) (by show (selN (freeQ m) m.frames.n).n ≤ _; omega)
    have hb : (0 : Int) ≤ i ∧ (i : Int) < (freeL m).n := by omega
    apply w12_1 m id true 0 0 0 (freeL m) (freeL m) (pipeF m id).1 (pipeF m id).1 (pipeF m id).2 (pipeF m id).2 (endsF m id).1 (endsF m id).2 (endsF m id).1 (endsF m id).2 i
    case c_tt => intro _ h; simp at h
    case c_tf => intro _ _; refine ⟨hb, hb, ?_⟩; rw [hw]; exact ih (i + 1) (by omega)
    all_goals (intro h; simp only [decide_eq_false_iff_not] at h; omega)

theorem checks_spec (m : Mac) (ok : MacOk m) (id : Int) : SpecD Try.prog 12 [.agg m.e, .int .i64 id] (.bool true) := by
  refine (specE_of (Try.func12) (by kernel_rfl) (by kernel_rfl) (by kernel_rfl) ?_).le
  obtain ⟨g, hg, hsm, hgs⟩ := great_small m ok
  have hck := check_spec m ok
  have hnk := ncheck_spec m ok.lim
  apply w12_0 m id true g (checkF m) (checkF m) (freeL m) (freeL m) num0 num0 false false 0 0 0 0
  case c_t => intro h; cases h
  case c_ft => intro _ _; exact ⟨alive_spec, hgs, Le.tt true⟩
  case c_fft => intro _ _ h; simp at h
  case c_ffft => intro _ _ _ _; exact ⟨alive_spec, hgs, hck, hnk, Le.tt true⟩
  case c_fffft => intro _ _ _ _ h; simp at h
  case c_fffff =>
    intro _ h _ _ _
    simp only [beq_eq_false_iff_ne] at h
    have hg0 : g = 0 := by rcases hg with h1 | h1 <;> omega
    have hb := hsm hg0
    exact ⟨alive_spec, hgs, hck, hnk, nfree_spec m ok.procs (by omega), rfree_spec m ok.procs (by omega), checks_at m ok id (freeL m).n 0 (by omega)⟩
theorem checks_law (m : Mac) (ok : MacOk m) (id : Int) (_ : (Lit.int .i64 id).wf = true) : SpecD Try.prog 12 [.agg m.e, .int .i64 id] (.bool true) := checks_spec m ok id
end Go.Hb
