/-
  THE FUNCTIONS, PART A: who goes on (sched.Pick and the document's).
-/
import Derived.Test.YtfcdfbafgmegfaaGreatWkA
namespace Go.Hb
open Go.RowKit Go.Proofs

theorem wrap_succ {i n : Nat} (h : i < n) (hn : n ≤ 140737488355328) : IntKind.i64.wrap ((i : Int) + 1) = ((i + 1 : Nat) : Int) := by
  rw [IntWalk.i64_in _ (by omega)]; rfl

theorem ready_spec (p : Prc) : SpecD Tryz.prog 84 [.agg p.e] (.bool (p.n 2 == 1)) :=
  (specE_of (Tryz.func84) (by kernel_rfl) (by kernel_rfl) (by kernel_rfl) (w67_0 p rfl)).eq

def nextF (m : Mac) (above : Int) : Nat → Nat → Int → Int
  | 0, _, least => least
  | k + 1, i, least => nextF m above k (i + 1) (if (m.procs.f i).n 2 = 1 ∧ above < (m.procs.f i).n 0 ∧ (least = 0 ∨ (m.procs.f i).n 0 < least) then (m.procs.f i).n 0 else least)

def idxF (q : Nat → Bool) : Nat → Nat → Int
  | 0, _ => -1
  | k + 1, i => if q i = true then i else idxF q k (i + 1)

theorem idxF_ok {q : Nat → Bool} : ∀ {k i : Nat}, (idxF q k i = -1 ∧ ∀ j, i ≤ j → j < i + k → q j = false) ∨ ∃ j : Nat, idxF q k i = j ∧ i ≤ j ∧ j < i + k ∧ q j = true ∧ ∀ t, i ≤ t → t < j → q t = false
  | 0, i => .inl ⟨rfl, fun j h1 h2 => absurd h2 (by omega)⟩
  | k + 1, i => by
    unfold idxF
    by_cases h : q i = true
    · rw [if_pos h]
      exact .inr ⟨i, rfl, by omega, by omega, h, fun t h1 h2 => absurd h2 (by omega)⟩
    · rw [if_neg h]
      rcases @idxF_ok q k (i + 1) with ⟨h1, h2⟩ | ⟨j, h1, h2, h3, h4, h5⟩
      · refine .inl ⟨h1, fun j h3 h4 => ?_⟩
        by_cases hj : j = i
        · subst hj; simpa using h
        · exact h2 j (by omega) (by omega)
      · refine .inr ⟨j, h1, by omega, by omega, h4, fun t h6 h7 => ?_⟩
        by_cases ht : t = i
        · subst ht; simpa using h
        · exact h5 t (by omega) h7

theorem index_at (l : Sq Prc) (g : Nat) (caps : List V) (q : Nat → Bool) (hn : l.n ≤ 140737488355328) (h : ∀ i, i < l.n → SpecD Tryz.prog g [.agg (l.f i).e, .rfp caps 0] (.bool (q i))) : ∀ (k i : Nat), i + k = l.n →
    GoToE Tryz.prog 48 (Eq (.int .i64 (idxF q k i))) (headOf Tryz.f48 0) ⟨19, 1000, [(0, prcs l), (1, .fn (g) [.rfp (caps) 0]), (7, .int .i64 (↑l.n)), (8, .int .i64 i)], []⟩ := by
  intro k
  induction k with
  | zero =>
    intro i hi
    apply w83_1 l g caps i false
    case c_f => intro _; rfl
    all_goals (intro h; simp only [decide_eq_true_eq] at h; omega)
  | succ k ih =>
    intro i hi
    have hw := wrap_succ (i := i) (n := l.n) (by omega) hn
    have hb : (0 : Int) ≤ i ∧ (i : Int) < l.n := by omega
    apply w83_1 l g caps i (q i)
    case c_f => intro h; simp only [decide_eq_false_iff_not] at h; omega
    case c_tt => intro _ hq; exact ⟨hb, h i (by omega), by simp [idxF, hq]⟩
    case c_tf =>
      intro _ hq
      refine ⟨hb, h i (by omega), ?_⟩
      rw [hw]
      have := ih (i + 1) (by omega)
      simpa [idxF, hq] using this

theorem index_spec (l : Sq Prc) (g : Nat) (caps : List V) (q : Nat → Bool) (hn : l.n ≤ 140737488355328) (h : ∀ i, i < l.n → SpecD Tryz.prog g [.agg (l.f i).e, .rfp caps 0] (.bool (q i))) :
    SpecD Tryz.prog 48 [prcs l, .fn g [.rfp caps 0]] (.int .i64 (idxF q l.n 0)) :=
  (specE_of (Tryz.func48) (by kernel_rfl) (by kernel_rfl) (by kernel_rfl) (w83_0 l g caps (index_at l g caps q hn h l.n 0 (by omega)))).eq

def findI (m : Mac) (pid : Int) : Int := idxF (fun i => (m.procs.f i).n 0 == pid) m.procs.n 0

theorem find1_spec (p : Prc) (pid : Int) : SpecD Tryz.prog 49 [.agg p.e, .rfp [.int .i64 pid] 0] (.bool (p.n 0 == pid)) :=
  (specE_of (Tryz.func49) (by kernel_rfl) (by kernel_rfl) (by kernel_rfl) (w84_0 p pid rfl)).eq

theorem find_spec (m : Mac) (pid : Int) (hn : m.procs.n ≤ 140737488355328) : SpecD Tryz.prog 20 [.agg m.e, .int .i64 pid] (.tup [.int .i64 (if 0 > findI m pid then 0 else findI m pid), .bool (decide (findI m pid ≥ 0))]) :=
  (specE_of (Tryz.func20) (by kernel_rfl) (by kernel_rfl) (by kernel_rfl) (w42_0 m pid (findI m pid) ⟨index_spec m.procs 49 _ _ hn fun i _ => find1_spec _ pid, rfl⟩)).eq

def pickK (m : Mac) : Nat → Nat → Int → Int → Int × Int
  | 0, _, a, l => (a, l)
  | k + 1, i, a, l => pickK m k (i + 1) (if (m.procs.f i).n 2 = 1 ∧ m.cur < (m.procs.f i).n 0 ∧ (a = 0 ∨ (m.procs.f i).n 0 < a) then (m.procs.f i).n 0 else a)
      (if (m.procs.f i).n 2 = 1 ∧ (l = 0 ∨ (m.procs.f i).n 0 < l) then (m.procs.f i).n 0 else l)

def pickEnd (m : Mac) (a l : Int) : Mac := if l = 0 then m else if a > 0 then { m with cur := a, left := m.quantum } else { m with cur := l, left := m.quantum }

theorem pick_at (m : Mac) (hn : m.procs.n ≤ 140737488355328) : ∀ (k i : Nat) (a l : Int), i + k = m.procs.n →
    GoToE Tryz.prog 45 (Eq (.agg (pickEnd m (pickK m k i a l).1 (pickK m k i a l).2).e)) (headOf Tryz.f45 0) ⟨82, 1000, [(1, .ptr 0 0), (2, .ptr 1 0), (5, .int .i64 a), (6, .int .i64 l), (32, prcs m.procs), (33, .int .i64 (↑m.procs.n)), (34, .int .i64 i)], [(0, .cells 30 m.e), (1, .cells 30 mac0)]⟩ := by
  intro k
  induction k with
  | zero =>
    intro i a l hi
    apply w23_1 m 0 false a l i
    case c_ft => intro _ h; simp only [beq_iff_eq] at h; simp [pickK, pickEnd, h]
    case c_fft => intro _ h h2; simp only [beq_eq_false_iff_ne, decide_eq_true_eq] at h h2; simp [pickK, pickEnd, h, h2]
    case c_fff => intro _ h h2; simp only [beq_eq_false_iff_ne, decide_eq_false_iff_not] at h h2; simp [pickK, pickEnd, h, h2]
    all_goals (intro h; simp only [decide_eq_true_eq] at h; omega)
  | succ k ih =>
    intro i a l hi
    have hw := wrap_succ (i := i) (n := m.procs.n) (by omega) hn
    have hb : (0 : Int) ≤ i ∧ (i : Int) < m.procs.n := by omega
    apply w23_1 m 0 false a l i
    case c_ft => intro h; simp only [decide_eq_false_iff_not] at h; omega
    case c_fft => intro h; simp only [decide_eq_false_iff_not] at h; omega
    case c_fff => intro h; simp only [decide_eq_false_iff_not] at h; omega
    all_goals
      intros
      refine ⟨hb, ready_spec _, ?_⟩
      rw [hw]
      simp only [Int.toNat_natCast, decide_eq_true_eq, decide_eq_false_iff_not, beq_iff_eq, beq_eq_false_iff_ne, Bool.not_eq_true', Bool.not_eq_false'] at *
      first
        | (refine (show pickK m (k + 1) i a l = pickK m k (i + 1) a l from ?_) ▸ ih (i + 1) a l (by omega)
           simp only [pickK]; congr 1 <;> split <;> omega)
        | (refine (show pickK m (k + 1) i a l = pickK m k (i + 1) ((m.procs.f i).n 0) l from ?_) ▸ ih (i + 1) ((m.procs.f i).n 0) l (by omega)
           simp only [pickK]; congr 1 <;> split <;> omega)
        | (refine (show pickK m (k + 1) i a l = pickK m k (i + 1) a ((m.procs.f i).n 0) from ?_) ▸ ih (i + 1) a ((m.procs.f i).n 0) (by omega)
           simp only [pickK]; congr 1 <;> split <;> omega)
        | (refine (show pickK m (k + 1) i a l = pickK m k (i + 1) ((m.procs.f i).n 0) ((m.procs.f i).n 0) from ?_) ▸ ih (i + 1) ((m.procs.f i).n 0) ((m.procs.f i).n 0) (by omega)
           simp only [pickK]; congr 1 <;> split <;> omega)

def pickM (m : Mac) : Mac :=
  if 0 ≤ findI m m.cur ∧ (m.procs.f (findI m m.cur).toNat).n 2 = 1 ∧ 0 < m.left then m
  else pickEnd m (pickK m m.procs.n 0 0 0).1 (pickK m m.procs.n 0 0 0).2

theorem pick_spec (m : Mac) (hn : m.procs.n ≤ 140737488355328) : SpecD Tryz.prog 45 [.agg m.e] (.agg (pickM m).e) := by
  refine (specE_of (Tryz.func45) (by kernel_rfl) (by kernel_rfl) (by kernel_rfl) ?_).eq
  have hf := find_spec m m.cur hn
  have hat := pick_at m hn m.procs.n 0 0 0 (by omega)
  rcases @idxF_ok (fun i => (m.procs.f i).n 0 == m.cur) m.procs.n 0 with ⟨h1, _⟩ | ⟨j, h1, _, h3, _, _⟩
  · have h1 : findI m m.cur = -1 := h1
    rw [h1] at hf
    apply w23_0 m 0 false 0 0
    case c_f =>
      intro _
      refine ⟨hf, ?_⟩
      have : pickM m = pickEnd m (pickK m m.procs.n 0 0 0).1 (pickK m m.procs.n 0 0 0).2 := by simp [pickM, h1]
      rw [this]; exact hat
    all_goals (intro h; cases h)
  · have h1 : findI m m.cur = j := h1
    rw [h1] at hf
    have e1 : (if (0 : Int) > j then (0 : Int) else j) = j := by rw [if_neg (by omega)]
    have e2 : decide ((j : Int) ≥ 0) = true := by simp
    rw [e1, e2] at hf
    have hb : (0 : Int) ≤ j ∧ (j : Int) < m.procs.n := by omega
    apply w23_0 m j true 0 0
    case c_f => intro h; cases h
    case c_ttt =>
      intro _ h2 h3
      simp only [Int.toNat_natCast, beq_iff_eq, decide_eq_true_eq] at h2 h3
      refine ⟨hf, hb, ready_spec _, ?_⟩
      have : pickM m = m := by unfold pickM; rw [if_pos]; rw [h1]; exact ⟨by omega, h2, h3⟩
      rw [this]
    case c_ttf =>
      intro _ h2 h3
      simp only [Int.toNat_natCast, beq_iff_eq, decide_eq_false_iff_not] at h2 h3
      refine ⟨hf, hb, ready_spec _, ?_⟩
      have : pickM m = pickEnd m (pickK m m.procs.n 0 0 0).1 (pickK m m.procs.n 0 0 0).2 := by
        unfold pickM; rw [if_neg]; intro h; exact h3 h.2.2
      rw [this]; exact hat
    case c_tf =>
      intro _ h2
      simp only [Int.toNat_natCast, beq_eq_false_iff_ne] at h2
      refine ⟨hf, hb, ready_spec _, ?_⟩
      have : pickM m = pickEnd m (pickK m m.procs.n 0 0 0).1 (pickK m m.procs.n 0 0 0).2 := by
        unfold pickM; rw [if_neg]; intro h; rw [h1] at h; exact h2 h.2.1
      rw [this]; exact hat

/-- The document's. -/
def goesOn (m : Mac) (i : Nat) : Prop := (m.procs.f i).n 0 = m.cur ∧ (m.procs.f i).n 2 = 1 ∧ 0 < m.left
instance (m : Mac) (i : Nat) : Decidable (goesOn m i) := by unfold goesOn; infer_instance

def rPickEnd (m : Mac) : Mac :=
  let n := if nextF m m.cur m.procs.n 0 0 = 0 then nextF m 0 m.procs.n 0 0 else nextF m m.cur m.procs.n 0 0
  if 0 < n then { m with cur := n, left := m.quantum } else m

def rPickK (m : Mac) : Nat → Nat → Mac
  | 0, _ => rPickEnd m
  | k + 1, i => if goesOn m i then m else rPickK m k (i + 1)

/-- What may be said of a machine that may be: its processes by rising numbers, from 1 on. -/
structure Rising (m : Mac) : Prop where
  pos : ∀ i, i < m.procs.n → 1 ≤ (m.procs.f i).n 0
  inc : ∀ i, i + 1 < m.procs.n → (m.procs.f i).n 0 < (m.procs.f (i + 1)).n 0

theorem Rising.lt {m : Mac} (h : Rising m) : ∀ {j i : Nat}, i < j → j < m.procs.n → (m.procs.f i).n 0 < (m.procs.f j).n 0 := by
  intro j
  induction j with
  | zero => intro i h1; omega
  | succ j ih =>
    intro i h1 h2
    have := h.inc j h2
    by_cases hij : i = j
    · subst hij; exact this
    · have := ih (i := i) (by omega) (by omega); omega

theorem pickK_eq {m : Mac} (h : Rising m) : ∀ (k i : Nat) (a l : Int), i + k = m.procs.n → pickK m k i a l = (nextF m m.cur k i a, nextF m 0 k i l)
  | 0, _, _, _, _ => rfl
  | k + 1, i, a, l, hi => by
    unfold pickK nextF
    rw [pickK_eq h k (i + 1) _ _ (by omega)]
    have := h.pos i (by omega)
    congr 2
    split <;> split <;> omega

theorem nextF_nonneg {m : Mac} (h : Rising m) (above : Int) : ∀ (k i : Nat) (l : Int), i + k = m.procs.n → 0 ≤ l → 0 ≤ nextF m above k i l ∧ (0 < l → 0 < nextF m above k i l)
  | 0, _, l, _, hl => ⟨hl, fun h => h⟩
  | k + 1, i, l, hi, hl => by
    unfold nextF
    have := h.pos i (by omega)
    split
    · have := nextF_nonneg h above k (i + 1) _ (by omega) (show 0 ≤ (m.procs.f i).n 0 by omega)
      exact ⟨this.1, fun _ => this.2 (by omega)⟩
    · exact nextF_nonneg h above k (i + 1) _ (by omega) hl

/-- With nobody above 0 there is nobody above Cur, as Cur is no less. -/
theorem nextF_zero {m : Mac} (h : Rising m) (hc : 0 ≤ m.cur) : ∀ (k i : Nat), i + k = m.procs.n → nextF m 0 k i 0 = 0 → nextF m m.cur k i 0 = 0
  | 0, _, _, _ => rfl
  | k + 1, i, hi, hz => by
    have := h.pos i (by omega)
    unfold nextF at hz ⊢
    by_cases hr : (m.procs.f i).n 2 = 1
    · rw [if_pos ⟨hr, by omega, .inl rfl⟩] at hz
      have := (nextF_nonneg h 0 k (i + 1) ((m.procs.f i).n 0) (by omega) (by omega)).2 (by omega)
      omega
    · rw [if_neg fun h => hr h.1] at hz ⊢
      exact nextF_zero h hc k (i + 1) (by omega) hz

theorem pickEnd_eq {m : Mac} (h : Rising m) (hc : 0 ≤ m.cur) : pickEnd m (pickK m m.procs.n 0 0 0).1 (pickK m m.procs.n 0 0 0).2 = rPickEnd m := by
  rw [pickK_eq h m.procs.n 0 0 0 (by omega)]
  have h1 := (nextF_nonneg h m.cur m.procs.n 0 0 (by omega) (by omega)).1
  have h2 := (nextF_nonneg h 0 m.procs.n 0 0 (by omega) (by omega)).1
  have h3 := nextF_zero h hc m.procs.n 0 (by omega)
  unfold pickEnd rPickEnd
  simp only []
  by_cases e1 : nextF m 0 m.procs.n 0 0 = 0
  · have e2 := h3 e1
    simp [e1, e2]
  · by_cases e2 : nextF m m.cur m.procs.n 0 0 = 0
    · simp [e1, e2]; omega
    · have : 0 < nextF m m.cur m.procs.n 0 0 := by omega
      simp [e1, e2, this]

theorem rPickK_eq {m : Mac} : ∀ (k i : Nat), (∃ j, i ≤ j ∧ j < i + k ∧ goesOn m j) ∧ rPickK m k i = m ∨ (∀ j, i ≤ j → j < i + k → ¬ goesOn m j) ∧ rPickK m k i = rPickEnd m
  | 0, i => .inr ⟨fun j h1 h2 => absurd h2 (by omega), rfl⟩
  | k + 1, i => by
    unfold rPickK
    by_cases hg : goesOn m i
    · rw [if_pos hg]; exact .inl ⟨⟨i, by omega, by omega, hg⟩, rfl⟩
    · rw [if_neg hg]
      rcases rPickK_eq k (i + 1) with ⟨⟨j, h1, h2, h3⟩, h4⟩ | ⟨h1, h2⟩
      · exact .inl ⟨⟨j, by omega, by omega, h3⟩, h4⟩
      · refine .inr ⟨fun j h3 h4 => ?_, h2⟩
        by_cases hj : j = i
        · subst hj; exact hg
        · exact h1 j (by omega) (by omega)

/-- Who goes on is the document's. -/
theorem pick_eq {m : Mac} (h : Rising m) (hc : 0 ≤ m.cur) : pickM m = rPickK m m.procs.n 0 := by
  unfold pickM
  rw [pickEnd_eq h hc]
  rcases @idxF_ok (fun i => (m.procs.f i).n 0 == m.cur) m.procs.n 0 with ⟨h1, h2⟩ | ⟨j, h1, _, h3, h4, _⟩
  · have h1 : findI m m.cur = -1 := h1
    rw [if_neg (by rw [h1]; intro h; omega)]
    rcases @rPickK_eq m m.procs.n 0 with ⟨⟨j, _, h5, h6⟩, _⟩ | ⟨_, h4⟩
    · have := h2 j (by omega) (by omega)
      simp only [beq_eq_false_iff_ne] at this
      exact absurd h6.1 this
    · exact h4.symm
  · have h1 : findI m m.cur = j := h1
    simp only [beq_iff_eq] at h4
    rw [h1]
    simp only [Int.toNat_natCast]
    rcases @rPickK_eq m m.procs.n 0 with ⟨⟨t, _, h5, h6⟩, h7⟩ | ⟨h5, h7⟩
    · have : t = j := by
        have e : (m.procs.f t).n 0 = (m.procs.f j).n 0 := by rw [h6.1, h4]
        rcases Nat.lt_trichotomy t j with hlt | heq | hgt
        · have := h.lt hlt (by omega); omega
        · exact heq
        · have := h.lt hgt (by omega); omega
      subst this
      rw [if_pos ⟨by omega, h6.2.1, h6.2.2⟩, h7]
    · have := h5 j (by omega) (by omega)
      rw [if_neg fun h => this ⟨h4, h.2.1, h.2.2⟩, h7]
end Go.Hb
