/-
  THE PLAIN LAW of 'SchedTurns': picked anew with no time left, each process that is ready comes once, round again.
-/
import Derived.Test.YtfcdfbafgmegfaaFnK
namespace Go.Hb

/-- How many of the first n are. -/
def cnt (q : Nat → Bool) : Nat → Nat
  | 0 => 0
  | n + 1 => cnt q n + if q n then 1 else 0

theorem cnt_bound (q : Nat → Bool) : ∀ n, cnt q n ≤ n
  | 0 => Nat.le_refl _
  | n + 1 => by
    have := cnt_bound q n
    simp only [cnt]
    split <;> omega
theorem cnt_le {q p : Nat → Bool} : ∀ (n : Nat), (∀ i, i < n → q i = true → p i = true) → cnt q n ≤ cnt p n
  | 0, _ => Nat.le_refl _
  | n + 1, h => by
    have h1 := cnt_le n fun i hi => h i (by omega)
    have h2 := h n (by omega)
    simp only [cnt]
    cases hq : q n with
    | false => simp; omega
    | true => rw [h2 hq]; omega

theorem cnt_lt {q p : Nat → Bool} : ∀ (n : Nat), cnt q n < cnt p n → ∃ i, i < n ∧ p i = true ∧ q i = false
  | 0, h => by simp [cnt] at h
  | n + 1, h => by
    simp only [cnt] at h
    by_cases hn : cnt q n < cnt p n
    · obtain ⟨i, h1, h2, h3⟩ := cnt_lt n hn
      exact ⟨i, by omega, h2, h3⟩
    · refine ⟨n, by omega, ?_⟩
      cases hp : p n with
      | false => rw [hp] at h; simp at h; omega
      | true =>
        cases hq : q n with
        | false => exact ⟨rfl, rfl⟩
        | true => rw [hp, hq] at h; simp at h; omega

theorem cnt_add {q p : Nat → Bool} {j : Nat} : ∀ (n : Nat), j < n → q j = false → (∀ i, i < n → p i = (q i || i == j)) → cnt p n = cnt q n + 1
  | 0, h, _, _ => by omega
  | n + 1, h, hq, hp => by
    simp only [cnt]
    by_cases hj : j = n
    · subst hj
      have h1 : cnt p j = cnt q j := by
        have e : ∀ (k : Nat), k ≤ j → cnt p k = cnt q k := by
          intro k
          induction k with
          | zero => intro _; rfl
          | succ k ih =>
            intro hk
            simp only [cnt]
            rw [ih (by omega), hp k (by omega)]
            have : (k == j) = false := by simp; omega
            rw [this, Bool.or_false]
        exact e j (Nat.le_refl _)
      rw [h1, hp j (by omega), hq]
      simp
    · rw [cnt_add n (by omega) hq (fun i hi => hp i (by omega)), hp n (by omega)]
      have : (n == j) = false := by simp; omega
      rw [this, Bool.or_false]
      omega

theorem cnt_full {q p : Nat → Bool} (n : Nat) (hs : ∀ i, i < n → q i = true → p i = true) (h : cnt q n = cnt p n) : ∀ i, i < n → p i = true → q i = true := by
  intro i hi hp
  induction n with
  | zero => omega
  | succ n ih =>
    simp only [cnt] at h
    have h1 := cnt_le n fun i hi => hs i (by omega)
    have h2 := hs n (by omega)
    by_cases hin : i = n
    · subst hin
      cases hq : q i with
      | true => rfl
      | false => rw [hq, hp] at h; simp at h; omega
    · refine ih (fun i hi => hs i (by omega)) ?_ (by omega)
      cases hq : q n with
      | true => rw [hq, h2 hq] at h; omega
      | false =>
        cases hp' : p n with
        | true => rw [hq, hp'] at h; simp at h; omega
        | false => rw [hq, hp'] at h; omega

/-- The first ready one above, by rising numbers. -/
theorem nextF_keep {m : Mac} (h : Rising m) (above : Int) : ∀ (k i : Nat) (l : Int), i + k = m.procs.n → 0 < l → (∀ j, i ≤ j → j < m.procs.n → l ≤ (m.procs.f j).n 0) → nextF m above k i l = l
  | 0, _, _, _, _, _ => rfl
  | k + 1, i, l, hi, hl, hj => by
    unfold nextF
    rw [if_neg]
    · exact nextF_keep h above k (i + 1) l (by omega) hl fun j h1 h2 => hj j (by omega) h2
    · intro hc
      have := hj i (Nat.le_refl _) (by omega)
      omega

theorem nextF_first {m : Mac} (h : Rising m) (above : Int) : ∀ (k i : Nat), i + k = m.procs.n →
    (∃ j, i ≤ j ∧ j < m.procs.n ∧ (m.procs.f j).n 2 = 1 ∧ above < (m.procs.f j).n 0 ∧ (∀ t, i ≤ t → t < j → ¬ ((m.procs.f t).n 2 = 1 ∧ above < (m.procs.f t).n 0)) ∧ nextF m above k i 0 = (m.procs.f j).n 0) ∨
    ((∀ j, i ≤ j → j < m.procs.n → ¬ ((m.procs.f j).n 2 = 1 ∧ above < (m.procs.f j).n 0)) ∧ nextF m above k i 0 = 0)
  | 0, i, hi => .inr ⟨fun j h1 h2 => by omega, rfl⟩
  | k + 1, i, hi => by
    by_cases hc : (m.procs.f i).n 2 = 1 ∧ above < (m.procs.f i).n 0
    · refine .inl ⟨i, Nat.le_refl _, by omega, hc.1, hc.2, fun t h1 h2 => by omega, ?_⟩
      unfold nextF
      rw [if_pos ⟨hc.1, hc.2, .inl rfl⟩]
      refine nextF_keep h above k (i + 1) _ (by omega) (by have := h.pos i (by omega); omega) fun j h1 h2 => ?_
      have := h.lt (i := i) (j := j) (by omega) h2
      omega
    · have e : nextF m above (k + 1) i 0 = nextF m above k (i + 1) 0 := by
        conv => lhs; unfold nextF
        rw [if_neg fun h => hc ⟨h.1, h.2.1⟩]
      rw [e]
      rcases nextF_first h above k (i + 1) (by omega) with ⟨j, h1, h2, h3, h4, h5, h6⟩ | ⟨h1, h2⟩
      · refine .inl ⟨j, by omega, h2, h3, h4, fun t h7 h8 => ?_, h6⟩
        by_cases ht : t = i
        · subst ht; exact hc
        · exact h5 t (by omega) h8
      · refine .inr ⟨fun j h3 h4 => ?_, h2⟩
        by_cases hj : j = i
        · subst hj; exact hc
        · exact h1 j (by omega) h4

/-- One turn with no time left. -/
theorem turn_at {x : Mac} (h : Rising x) (hc : 0 ≤ x.cur) (hl : x.left = 0) {u : Nat} (hu : u < x.procs.n) (hr : (x.procs.f u).n 2 = 1) :
    ∃ j, j < x.procs.n ∧ (x.procs.f j).n 2 = 1 ∧ pickM x = { x with cur := (x.procs.f j).n 0, left := x.quantum } ∧
      ((x.cur < (x.procs.f j).n 0 ∧ ∀ t, t < j → ¬ ((x.procs.f t).n 2 = 1 ∧ x.cur < (x.procs.f t).n 0)) ∨
       ((∀ t, t < x.procs.n → (x.procs.f t).n 2 = 1 → (x.procs.f t).n 0 ≤ x.cur) ∧ ∀ t, t < j → ¬ (x.procs.f t).n 2 = 1)) := by
  have e : pickM x = rPickEnd x := by
    rw [pick_eq h hc]
    rcases rPickK_eq (m := x) x.procs.n 0 with ⟨⟨j, _, _, h3⟩, _⟩ | ⟨_, h2⟩
    · exact absurd h3.2.2 (by omega)
    · exact h2
  rw [e]
  unfold rPickEnd
  rcases nextF_first h x.cur x.procs.n 0 (by omega) with ⟨j, _, h2, h3, h4, h5, h6⟩ | ⟨h1, h2⟩
  · have hp := h.pos j h2
    refine ⟨j, h2, h3, ?_, .inl ⟨h4, fun t ht => h5 t (by omega) ht⟩⟩
    simp only [h6]
    rw [if_neg (show ¬ (x.procs.f j).n 0 = 0 by omega), if_pos (show 0 < (x.procs.f j).n 0 by omega)]
  · rcases nextF_first h 0 x.procs.n 0 (by omega) with ⟨j, _, k2, k3, k4, k5, k6⟩ | ⟨k1, _⟩
    · refine ⟨j, k2, k3, ?_, .inr ⟨fun t h3 h4 => ?_, fun t ht h3 => k5 t (by omega) ht ⟨h3, ?_⟩⟩⟩
      · simp only [h2, k6, if_true]
        rw [if_pos k4]
      · have := h1 t (by omega) h3
        by_cases hlt : x.cur < (x.procs.f t).n 0
        · exact absurd ⟨h4, hlt⟩ this
        · omega
      · have := h.pos t (by omega); omega
    · exact absurd ⟨hr, by have := h.pos u hu; omega⟩ (k1 u (by omega) hu)

/-- Who was met: behind c0 up to c; or behind the round's end, up to c. -/
def rdyB (m : Mac) (i : Nat) : Bool := (m.procs.f i).n 2 == 1
def metB (m : Mac) (r c : Int) (i : Nat) : Bool := rdyB m i && (if r = 0 then decide (m.cur < (m.procs.f i).n 0) && decide ((m.procs.f i).n 0 ≤ c) else decide (m.cur < (m.procs.f i).n 0) || decide ((m.procs.f i).n 0 ≤ c))
structure Turns (m : Mac) (k : Nat) (r c : Int) (val : Int → Option Int) : Prop where
  r01 : (r = 0 ∧ m.cur ≤ c) ∨ (r = 1 ∧ 0 ≤ c ∧ c ≤ m.cur)
  count : cnt (metB m r c) m.procs.n = k
  yes : ∀ i, i < m.procs.n → metB m r c i = true → val ((m.procs.f i).n 0) = some 1
  no : ∀ p, (∀ i, i < m.procs.n → metB m r c i = true → (m.procs.f i).n 0 ≠ p) → val p = none

theorem metB_iff (m : Mac) (r c : Int) (i : Nat) : metB m r c i = true ↔ (m.procs.f i).n 2 = 1 ∧ (r = 0 ∧ m.cur < (m.procs.f i).n 0 ∧ (m.procs.f i).n 0 ≤ c ∨ r ≠ 0 ∧ (m.cur < (m.procs.f i).n 0 ∨ (m.procs.f i).n 0 ≤ c)) := by
  unfold metB rdyB
  by_cases h : r = 0 <;> simp [h]

theorem turns_zero (m : Mac) : Turns m 0 0 m.cur (fun _ => none) where
  r01 := .inl ⟨rfl, Int.le_refl _⟩
  count := by
    have e : ∀ n, cnt (metB m 0 m.cur) n = 0 := by
      intro n
      induction n with
      | zero => rfl
      | succ n ih =>
        simp only [cnt, ih]
        have : metB m 0 m.cur n = false := by
          cases h : metB m 0 m.cur n with
          | false => rfl
          | true => rw [metB_iff] at h; omega
        rw [this]; rfl
    exact e _
  yes := fun i _ h => by rw [metB_iff] at h; omega
  no := fun _ _ => rfl

theorem Rising.inj {m : Mac} (h : Rising m) {i j : Nat} (hi : i < m.procs.n) (hj : j < m.procs.n) (e : (m.procs.f i).n 0 = (m.procs.f j).n 0) : i = j := by
  rcases Nat.lt_trichotomy i j with h1 | h1 | h1
  · have := h.lt h1 hj; omega
  · exact h1
  · have := h.lt h1 hi; omega

/-- A turn more: from k to k + 1, as long as not all were met. -/
theorem turns_succ {m : Mac} (h : Rising m) (hc : 0 ≤ m.cur) {k : Nat} {r c : Int} {val : Int → Option Int} (t : Turns m k r c val) (hk : k < cnt (rdyB m) m.procs.n) {x : Mac} (hx : x = { m with cur := c, left := 0 }) :
    ∃ c', pickM x = { m with cur := c', left := m.quantum } ∧ val c' = none ∧ 0 ≤ c' ∧
      ((c' ≤ c ∧ r = 0 ∧ Turns m (k + 1) 1 c' (setM val c' 1)) ∨ (¬ c' ≤ c ∧ Turns m (k + 1) r c' (setM val c' 1))) := by
  have hx' : Rising x := by rw [hx]; exact ⟨h.pos, h.inc⟩
  have hcc : 0 ≤ c := by rcases t.r01 with ⟨_, h1⟩ | ⟨_, h1, _⟩ <;> omega
  obtain ⟨u, hu, hur, hum⟩ := cnt_lt (q := metB m r c) (p := rdyB m) m.procs.n (by rw [t.count]; exact hk)
  have hur : (m.procs.f u).n 2 = 1 := by simpa [rdyB] using hur
  have hum' := hum
  have hum : ¬ metB m r c u = true := by simp [hum']
  rw [metB_iff] at hum
  obtain ⟨j, hj, hjr, hp, hcase⟩ := turn_at (x := x) hx' (by rw [hx]; exact hcc) (by rw [hx]) (u := u) (by rw [hx]; exact hu) (by rw [hx]; exact hur)
  rw [hx] at hj hjr hp hcase
  simp only at hj hjr hp hcase
  have hpos := h.pos j hj
  rw [← hx] at hp
  -- the new one was not met; with it the met are one more
  have fin : ∀ (r' : Int), ((r' = 0 ∧ m.cur ≤ (m.procs.f j).n 0) ∨ (r' = 1 ∧ 0 ≤ (m.procs.f j).n 0 ∧ (m.procs.f j).n 0 ≤ m.cur)) → ¬ metB m r c j = true →
      (∀ i, i < m.procs.n → (metB m r' ((m.procs.f j).n 0) i = true ↔ metB m r c i = true ∨ i = j)) →
      val ((m.procs.f j).n 0) = none ∧ Turns m (k + 1) r' ((m.procs.f j).n 0) (setM val ((m.procs.f j).n 0) 1) := by
    intro r' h1 h2 h3
    have h2' : metB m r c j = false := by simpa using h2
    have hno : val ((m.procs.f j).n 0) = none := t.no _ fun i hi hm e => by
      have := h.inj hi hj e
      subst this
      exact h2 hm
    refine ⟨hno, h1, ?_, ?_, ?_⟩
    · rw [cnt_add m.procs.n hj h2' fun i hi => ?_, t.count]
      cases hb : metB m r' ((m.procs.f j).n 0) i with
      | true =>
        rcases (h3 i hi).1 hb with h4 | h4
        · simp [h4]
        · simp [h4]
      | false =>
        have h4 : ¬ (metB m r c i = true ∨ i = j) := fun h5 => by rw [(h3 i hi).2 h5] at hb; cases hb
        have h5 : metB m r c i = false := by
          cases hb2 : metB m r c i with
          | false => rfl
          | true => exact absurd (.inl hb2) h4
        have h6 : (i == j) = false := by simpa using fun e => h4 (.inr e)
        rw [h5, h6]; rfl
    · intro i hi hm
      unfold setM
      by_cases he : (m.procs.f i).n 0 = (m.procs.f j).n 0
      · rw [if_pos he]
      · rw [if_neg he]
        rcases (h3 i hi).1 hm with h4 | h4
        · exact t.yes i hi h4
        · subst h4; exact absurd rfl he
    · intro p hp
      unfold setM
      rw [if_neg fun e => hp j hj ((h3 j hj).2 (.inr rfl)) e.symm]
      exact t.no p fun i hi hm => hp i hi ((h3 i hi).2 (.inl hm))
  refine ⟨(m.procs.f j).n 0, hp, ?_⟩
  rcases hcase with ⟨hgt, hfirst⟩ | ⟨hall, hfirst⟩
  · -- the first one above
    have key : ∀ i, i < m.procs.n → (m.procs.f i).n 2 = 1 → c < (m.procs.f i).n 0 → (m.procs.f i).n 0 ≤ (m.procs.f j).n 0 → i = j := by
      intro i hi h1 h2 h3
      rcases Nat.lt_trichotomy i j with h4 | h4 | h4
      · exact absurd ⟨h1, h2⟩ (hfirst i h4)
      · exact h4
      · have := h.lt h4 hi; omega
    have hle : r = 1 → (m.procs.f j).n 0 ≤ m.cur := by
      intro hr
      have h1 : c < (m.procs.f u).n 0 ∧ (m.procs.f u).n 0 ≤ m.cur := by omega
      rcases Nat.lt_trichotomy u j with h4 | h4 | h4
      · exact absurd ⟨hur, h1.1⟩ (hfirst u h4)
      · subst h4; exact h1.2
      · have := h.lt h4 hu; omega
    have hr1 : (r = 0 ∧ m.cur ≤ (m.procs.f j).n 0) ∨ (r = 1 ∧ 0 ≤ (m.procs.f j).n 0 ∧ (m.procs.f j).n 0 ≤ m.cur) := by
      rcases t.r01 with ⟨h1, h2⟩ | ⟨h1, h2, h3⟩
      · exact .inl ⟨h1, by omega⟩
      · exact .inr ⟨h1, by omega, hle h1⟩
    have hr2 : ¬ metB m r c j = true := by
      rw [metB_iff]
      rcases t.r01 with ⟨h1, h2⟩ | ⟨h1, h2, h3⟩
      · omega
      · have := hle h1; omega
    have h1 := fin r hr1 hr2 (fun i hi => by
      rw [metB_iff, metB_iff]
      constructor
      · intro ⟨h1, h2⟩
        by_cases hci : c < (m.procs.f i).n 0 ∧ (m.procs.f i).n 0 ≤ (m.procs.f j).n 0
        · exact .inr (key i hi h1 hci.1 hci.2)
        · exact .inl ⟨h1, by omega⟩
      · intro h1
        rcases h1 with ⟨h1, h2⟩ | h1
        · exact ⟨h1, by omega⟩
        · subst h1
          refine ⟨hjr, ?_⟩
          rcases t.r01 with ⟨h1, h2⟩ | ⟨h1, h2, h3⟩ <;> omega)
    exact ⟨h1.1, by omega, .inr ⟨by omega, h1.2⟩⟩
  · -- round again
    have hr0 : r = 0 := by
      rcases t.r01 with ⟨h1, _⟩ | ⟨h1, _, h3⟩
      · exact h1
      · have := hall u hu hur; omega
    have hju : (m.procs.f j).n 0 ≤ (m.procs.f u).n 0 := by
      rcases Nat.lt_trichotomy u j with h4 | h4 | h4
      · exact absurd hur (hfirst u h4)
      · subst h4; exact Int.le_refl _
      · have := h.lt h4 hu; omega
    have hu2 := hall u hu hur
    have hmc : m.cur ≤ c := by rcases t.r01 with ⟨_, h1⟩ | ⟨h1, _, _⟩ <;> omega
    have hju2 : (m.procs.f j).n 0 ≤ m.cur := by omega
    have h1 := fin 1 (.inr ⟨rfl, by omega, hju2⟩) (by rw [metB_iff]; omega) (fun i hi => by
      rw [metB_iff, metB_iff]
      constructor
      · intro ⟨h1, h2⟩
        have h3 := hall i hi h1
        by_cases hci : (m.procs.f i).n 0 ≤ (m.procs.f j).n 0
        · refine .inr ?_
          rcases Nat.lt_trichotomy i j with h4 | h4 | h4
          · exact absurd h1 (hfirst i h4)
          · exact h4
          · have := h.lt h4 hi; omega
        · exact .inl ⟨h1, by omega⟩
      · intro h1
        rcases h1 with ⟨h1, h2⟩ | h1
        · exact ⟨h1, by omega⟩
        · subst h1; exact ⟨hjr, by omega⟩)
    exact ⟨h1.1, by omega, .inl ⟨by omega, hr0, h1.2⟩⟩

/-- Behind them all each ready one was met once, and nobody else. -/
theorem turns_all {m : Mac} (h : Rising m) {r c : Int} {val : Int → Option Int} (t : Turns m (cnt (rdyB m) m.procs.n) r c val) : ∀ i, i < m.procs.n → val ((m.procs.f i).n 0) = if (m.procs.f i).n 2 = 1 then some 1 else none := by
  intro i hi
  by_cases hr : (m.procs.f i).n 2 = 1
  · rw [if_pos hr]
    refine t.yes i hi (cnt_full m.procs.n (fun j _ hj => ?_) t.count i hi (by simpa [rdyB] using hr))
    have := (metB_iff m r c j).1 hj
    simp [rdyB, this.1]
  · rw [if_neg hr]
    refine t.no _ fun j hj hm e => ?_
    have := h.inj hj hi e
    subst this
    exact hr ((metB_iff m r c j).1 hm).1
end Go.Hb
