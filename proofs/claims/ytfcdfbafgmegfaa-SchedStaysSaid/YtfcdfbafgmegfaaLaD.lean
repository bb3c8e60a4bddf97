/-
  THE PLAIN LAW of 'SchedStays': who goes on, and that the machine may be.
-/
import Derived.Test.YtfcdfbafgmegfaaLaT
import Derived.Test.YtfcdfbafgmegfaaFnH
namespace Go.Hb
open Go.RowKit Go.Proofs

theorem pick_cases {m : Mac} (h : Rising m) (hc : 0 ≤ m.cur) : (∃ j, j < m.procs.n ∧ goesOn m j ∧ pickM m = m) ∨ ((∀ j, j < m.procs.n → ¬ goesOn m j) ∧
    ((∃ j, j < m.procs.n ∧ (m.procs.f j).n 2 = 1 ∧ pickM m = { m with cur := (m.procs.f j).n 0, left := m.quantum }) ∨ (∀ j, j < m.procs.n → (m.procs.f j).n 2 ≠ 1) ∧ pickM m = m)) := by
  rw [pick_eq h hc]
  rcases rPickK_eq (m := m) m.procs.n 0 with ⟨⟨j, _, h2, h3⟩, h4⟩ | ⟨h1, h2⟩
  · exact .inl ⟨j, by omega, h3, h4⟩
  · refine .inr ⟨fun j hj => h1 j (by omega) (by omega), ?_⟩
    rw [h2]
    unfold rPickEnd
    rcases nextF_first h m.cur m.procs.n 0 (by omega) with ⟨j, _, h2, h3, h4, h5, h6⟩ | ⟨h1, h2⟩
    · have hp := h.pos j h2
      refine .inl ⟨j, h2, h3, ?_⟩
      simp only [h6]
      rw [if_neg (show ¬ (m.procs.f j).n 0 = 0 by omega), if_pos (show 0 < (m.procs.f j).n 0 by omega)]
    · rcases nextF_first h 0 m.procs.n 0 (by omega) with ⟨j, _, k2, k3, k4, k5, k6⟩ | ⟨k1, k2⟩
      · refine .inl ⟨j, k2, k3, ?_⟩
        simp only [h2, k6, if_true]
        rw [if_pos k4]
      · refine .inr ⟨fun j hj hr => k1 j (by omega) hj ⟨hr, by have := h.pos j hj; omega⟩, ?_⟩
        simp only [h2, k2, if_true]
        rw [if_neg (by omega)]

theorem chkFrames_cur (m : Mac) (c l : Int) (k i : Nat) : chkFrames { m with cur := c, left := l } k i = chkFrames m k i := by kernel_rfl
theorem checkF_cur {m : Mac} (h : checkF m = 0) {c l : Int} (hc : 0 ≤ c) (hl : 0 ≤ l ∧ l ≤ m.quantum) : checkF { m with cur := c, left := l } = 0 := by
  have hf := fine_of h
  have h1 := hf.quantum
  have h2 := hf.next
  have h3 := hf.newpipe
  have h4 := hf.frames
  have h5 := hf.left
  have h6 := hf.cur
  unfold checkF at h ⊢
  rw [if_neg (by omega), if_neg (by omega)] at h
  simp only []
  rw [if_neg (by omega), if_neg (by omega), chkFrames_cur]
  exact h
theorem checkF_pick {m : Mac} (h : checkF m = 0) (hr : Rising m) : checkF (pickM m) = 0 := by
  have hf := fine_of h
  have h1 := hf.quantum
  rcases pick_cases hr hf.cur with ⟨j, hj, hg, e⟩ | ⟨_, ⟨j, hj, _, e⟩ | ⟨_, e⟩⟩
  · rw [e]; exact h
  · rw [e]; exact checkF_cur h (by have := hr.pos j hj; omega) ⟨by omega, Int.le_refl _⟩
  · rw [e]; exact h

theorem cnt_zero {q : Nat → Bool} : ∀ {n : Nat}, cnt q n = 0 → ∀ i, i < n → q i = false
  | n + 1, h, i, hi => by
    simp only [cnt] at h
    by_cases hin : i = n
    · subst hin
      cases hq : q i with
      | false => rfl
      | true => rw [hq] at h; simp at h
    · exact cnt_zero (n := n) (by omega) i (by omega)
theorem cnt_none {q : Nat → Bool} : ∀ {n : Nat}, (∀ i, i < n → q i = false) → cnt q n = 0
  | 0, _ => rfl
  | n + 1, h => by
    simp only [cnt]
    rw [cnt_none (n := n) fun i hi => h i (by omega), h n (by omega)]; rfl
/-- Whether some one of the first n is. -/
def anyK (q : Nat → Bool) : Nat → Bool
  | 0 => false
  | n + 1 => anyK q n || q n
theorem anyK_iff (q : Nat → Bool) : ∀ n, anyK q n = true ↔ ∃ i, i < n ∧ q i = true
  | 0 => ⟨fun h => (by cases h), fun ⟨_, h, _⟩ => absurd h (Nat.not_lt_zero _)⟩
  | n + 1 => by
    simp only [anyK, Bool.or_eq_true, anyK_iff q n]
    constructor
    · rintro (⟨i, h1, h2⟩ | h)
      · exact ⟨i, by omega, h2⟩
      · exact ⟨n, by omega, h⟩
    · rintro ⟨i, h1, h2⟩
      by_cases hin : i = n
      · subst hin; exact .inr h2
      · exact .inl ⟨i, by omega, h2⟩

def onB (m : Mac) (i : Nat) : Bool := (m.procs.f i).n 2 == 1 && (m.procs.f i).n 0 == m.cur
/-- The first demand. -/
theorem stays_same {m : Mac} (h : Rising m) (hc : 0 ≤ m.cur) (hs : (anyK (onB m) m.procs.n = true ∧ 0 < m.left) ∨ cnt (rdyB m) m.procs.n = 0) : pickM m = m := by
  rcases pick_cases h hc with ⟨j, hj, hg, e⟩ | ⟨h1, ⟨j, hj, hr, e⟩ | ⟨_, e⟩⟩
  · exact e
  · rcases hs with ⟨hs, hl⟩ | hs
    · obtain ⟨i, hi, hq⟩ := (anyK_iff _ _).1 hs
      simp only [onB, Bool.and_eq_true, beq_iff_eq] at hq
      exact absurd ⟨hq.2, hq.1, hl⟩ (h1 i hi)
    · have := cnt_zero hs j hj
      simp only [rdyB, beq_eq_false_iff_ne] at this
      exact absurd hr this
  · exact e
/-- The second one. -/
theorem stays_found {m : Mac} (h : Rising m) (hc : 0 ≤ m.cur) (hs : cnt (rdyB m) m.procs.n ≠ 0) : anyK (onB { m with cur := (pickM m).cur }) m.procs.n = true := by
  rcases pick_cases h hc with ⟨j, hj, hg, e⟩ | ⟨h1, ⟨j, hj, hr, e⟩ | ⟨h2, e⟩⟩
  · rw [e]
    exact (anyK_iff _ _).2 ⟨j, hj, by simp only [onB, Bool.and_eq_true, beq_iff_eq]; exact ⟨hg.2.1, hg.1⟩⟩
  · rw [e]
    exact (anyK_iff _ _).2 ⟨j, hj, by simp only [onB, Bool.and_eq_true, beq_iff_eq]; exact ⟨hr, trivial⟩⟩
  · exact absurd (cnt_none fun i hi => by simp only [rdyB, beq_eq_false_iff_ne]; exact h2 i hi) hs
end Go.Hb
