/-
  PLAIN LAWS ON PIPES: what Check asks of them, other pipes in a machine that may be; those that stay.
-/
import Derived.Test.YtfcdfbafgmegfaaFoD
namespace Go.Hb
open Go.RowKit Go.Proofs

theorem procFds_iff (m : Mac) (p : Prc) : ∀ k j, procFds m p k j = true ↔ ∀ t, j ≤ t → t < j + k → fdF m (p.n (68 + 3 * t)) (p.n (69 + 3 * t)) (p.n (70 + 3 * t)) = true ∧ ¬ (p.n 2 = 3 ∧ p.n (68 + 3 * t) ≠ 0)
  | 0, j => ⟨fun _ t h1 h2 => by omega, fun _ => rfl⟩
  | k + 1, j => by
    simp only [procFds]
    by_cases h : fdF m (p.n (68 + 3 * j)) (p.n (69 + 3 * j)) (p.n (70 + 3 * j)) = false ∨ (p.n 2 = 3 ∧ p.n (68 + 3 * j) ≠ 0)
    · rw [if_pos h]
      refine ⟨fun h2 => (by cases h2), fun h2 => ?_⟩
      obtain ⟨h3, h4⟩ := h2 j (by omega) (by omega)
      rcases h with h | h
      · rw [h3] at h; cases h
      · exact absurd h h4
    · rw [if_neg h, procFds_iff m p k (j + 1)]
      refine ⟨fun h2 t h3 h4 => ?_, fun h2 t h3 h4 => h2 t (by omega) (by omega)⟩
      by_cases ht : t = j
      · subst ht
        refine ⟨?_, fun h5 => h (.inr h5)⟩
        cases hx : fdF m (p.n (68 + 3 * t)) (p.n (69 + 3 * t)) (p.n (70 + 3 * t)) with
        | true => rfl
        | false => exact absurd (.inl hx) h
      · exact h2 t (by omega) (by omega)
def pipeRight (m : Mac) (t : Nat) : Prop := (0 < t → (m.pipes.f (t - 1)).n < (m.pipes.f t).n) ∧ (1 ≤ (m.pipes.f t).n ∧ (m.pipes.f t).n ≤ m.newpipe - 1) ∧ (m.pipes.f t).s.size ≤ 64
theorem rightK_iff (m : Mac) : ∀ k i, rightK m k i = true ↔ ∀ t, i ≤ t → t < i + k → pipeRight m t
  | 0, i => ⟨fun _ t h1 h2 => by omega, fun _ => rfl⟩
  | k + 1, i => by
    have e : rightK m (k + 1) i = if (0 < i ∧ (m.pipes.f (i - 1)).n ≥ (m.pipes.f i).n) ∨ ¬ (1 ≤ (m.pipes.f i).n ∧ (m.pipes.f i).n ≤ m.newpipe - 1) ∨ (m.pipes.f i).s.size > 64 then false else rightK m k (i + 1) := rfl
    rw [e]
    by_cases h : (0 < i ∧ (m.pipes.f (i - 1)).n ≥ (m.pipes.f i).n) ∨ ¬ (1 ≤ (m.pipes.f i).n ∧ (m.pipes.f i).n ≤ m.newpipe - 1) ∨ (m.pipes.f i).s.size > 64
    · rw [if_pos h]
      refine ⟨fun h2 => (by cases h2), fun h2 => ?_⟩
      obtain ⟨h3, h4, h5⟩ := h2 i (by omega) (by omega)
      exfalso
      rcases h with ⟨h, h6⟩ | h | h
      · have := h3 h; omega
      · exact h h4
      · omega
    · rw [if_neg h, rightK_iff m k (i + 1)]
      refine ⟨fun h2 t h3 h4 => ?_, fun h2 t h3 h4 => h2 t (by omega) (by omega)⟩
      by_cases ht : t = i
      · subst ht
        exact ⟨fun h0 => by omega, by omega, by omega⟩
      · exact h2 t (by omega) (by omega)
theorem pipes_rise {m : Mac} (h : rightK m m.pipes.n 0 = true) : ∀ {b a : Nat}, a < b → b < m.pipes.n → (m.pipes.f a).n < (m.pipes.f b).n := by
  rw [rightK_iff] at h
  intro b
  induction b with
  | zero => intro a h1; omega
  | succ b ih =>
    intro a h1 h2
    have h3 := (h (b + 1) (Nat.zero_le _) (by omega)).1 (by omega)
    rw [Nat.add_sub_cancel] at h3
    by_cases hab : a = b
    · subst hab; exact h3
    · have := ih (a := a) (by omega) (by omega); omega

/-- Other pipes in a machine that may be. -/
def pipesM (m : Mac) (l : Sq Num) (np : Int) : Mac := { m with pipes := l, newpipe := np }
theorem page_pipes (m : Mac) (l : Sq Num) (np : Int) (p : Prc) (j : Nat) : pageBad (pipesM m l np) p j = pageBad m p j := by kernel_rfl
theorem par_pipes (m : Mac) (l : Sq Num) (np : Int) (p : Prc) : parB (pipesM m l np) p = parB m p := by kernel_rfl
theorem end_pipes (m : Mac) (l : Sq Num) (np : Int) : chkEnd (pipesM m l np) = chkEnd m := by kernel_rfl
theorem checkF_pipes {m : Mac} (h : checkF m = 0) (l : Sq Num) (np : Int) (hl : l.n ≤ 64) (hnp : 1 ≤ np ∧ np ≤ 1000000000) (hr : rightK (pipesM m l np) l.n 0 = true)
    (hfd : ∀ i, i < m.procs.n → ∀ j, j < 8 → fdF m ((m.procs.f i).n (68 + 3 * j)) ((m.procs.f i).n (69 + 3 * j)) ((m.procs.f i).n (70 + 3 * j)) = true →
      fdF (pipesM m l np) ((m.procs.f i).n (68 + 3 * j)) ((m.procs.f i).n (69 + 3 * j)) ((m.procs.f i).n (70 + 3 * j)) = true) : checkF (pipesM m l np) = 0 := by
  have hf := fine_of h
  have hw := whole_of h
  have h1 := hf.quantum
  have h2 := hf.next
  have h3 := hf.newpipe
  have h4 := hf.frames
  have h5 := hf.left
  have h6 := hf.cur
  have h7 := hf.procs
  have h8 := hw.pipes
  unfold checkF at h
  rw [if_neg (by omega), if_neg (by omega), chkFrames_some] at h
  have e : checkF (pipesM m l np) = chkFrames (pipesM m l np) m.frames.n 0 := by
    unfold checkF
    rw [if_neg (show ¬ ((pipesM m l np).quantum < 1 ∨ (pipesM m l np).quantum > 1000 ∨ (pipesM m l np).left < 0 ∨ (pipesM m l np).left > (pipesM m l np).quantum ∨ (pipesM m l np).cur < 0 ∨ (pipesM m l np).next < 1 ∨ (pipesM m l np).next > 1000000000 ∨ (pipesM m l np).newpipe < 1 ∨ (pipesM m l np).newpipe > 1000000000) from
      (show ¬ (m.quantum < 1 ∨ m.quantum > 1000 ∨ m.left < 0 ∨ m.left > m.quantum ∨ m.cur < 0 ∨ m.next < 1 ∨ m.next > 1000000000 ∨ np < 1 ∨ np > 1000000000) by omega)),
      if_neg (show ¬ ((pipesM m l np).frames.n < 1 ∨ (pipesM m l np).frames.n > 64) from (show ¬ (m.frames.n < 1 ∨ m.frames.n > 64) by omega))]
    rfl
  have hb : bigF (pipesM m l np) = bigF m := rfl
  rw [e, chkFrames_some, hb]
  split at h
  · cases h
  · rename_i hs
    rw [if_neg hs]
    rw [if_neg (by omega), chkProcs_ps] at h
    rw [if_neg (show ¬ (pipesM m l np).procs.n > 8 from (show ¬ m.procs.n > 8 by omega)), chkProcs_ps]
    split at h
    · rename_i hp
      have hp2 : psK (pipesM m l np) (pipesM m l np).procs.n 0 0 (fun _ => none) = true := by
        rw [psK_iff] at hp ⊢
        intro i hi
        obtain ⟨h9, h10⟩ := hp i hi
        refine ⟨h9, ?_⟩
        rw [procF_iff] at h10 ⊢
        refine ⟨?_, fun j hj => by rw [page_pipes]; exact h10.2 j hj⟩
        have hsp := h10.1
        rw [sProc_iff] at hsp ⊢
        obtain ⟨g1, g2, g3, g4, g5, g6⟩ := hsp
        refine ⟨g1, g2, by rw [par_pipes]; exact g3, g4, g5, ?_⟩
        rw [procFds_iff] at g6 ⊢
        intro t ht1 ht2
        exact ⟨hfd i hi t (by omega) (g6 t ht1 ht2).1, (g6 t ht1 ht2).2⟩
      rw [if_pos hp2, if_neg (show ¬ (pipesM m l np).pipes.n > 64 from (show ¬ l.n > 64 by omega)), chkPipes_right]
      have hr' : rightK (pipesM m l np) (pipesM m l np).pipes.n 0 = true := hr
      rw [if_pos hr', end_pipes]
      rw [if_neg (by omega), chkPipes_right, if_pos hw.right] at h
      exact h
    · cases h

/-- A pipe that is there. -/
theorem pipeK_has (l : Sq Num) (y : Int) : ∀ k i, (pipeK l y k i).2 = true ↔ ∃ t, i ≤ t ∧ t < i + k ∧ (l.f t).n = y
  | 0, i => ⟨fun h => (by cases h), fun ⟨t, h1, h2, _⟩ => by omega⟩
  | k + 1, i => by
    simp only [pipeK]
    by_cases h : (l.f i).n = y
    · rw [if_pos h]
      exact ⟨fun _ => ⟨i, by omega, by omega, h⟩, fun _ => rfl⟩
    · rw [if_neg h, pipeK_has l y k (i + 1)]
      refine ⟨fun ⟨t, h1, h2, h3⟩ => ⟨t, by omega, by omega, h3⟩, fun ⟨t, h1, h2, h3⟩ => ⟨t, ?_, by omega, h3⟩⟩
      by_cases ht : t = i
      · subst ht; exact absurd h3 h
      · omega

theorem keepF_ok (q : Nat → Bool) (l : Sq Num) : ∀ j, (∀ t, t < (keepF q l j).n → ∃ i, i < j ∧ q i = false ∧ (keepF q l j).f t = l.f i) ∧ (∀ i, i < j → q i = false → ∃ t, t < (keepF q l j).n ∧ (keepF q l j).f t = l.f i) ∧
    ((∀ a b, a < b → b < j → (l.f a).n < (l.f b).n) → ∀ s t, s < t → t < (keepF q l j).n → ((keepF q l j).f s).n < ((keepF q l j).f t).n)
  | 0 => ⟨fun t h => absurd h (Nat.not_lt_zero t), fun i h => absurd h (Nat.not_lt_zero i), fun _ s t _ h => absurd h (Nat.not_lt_zero t)⟩
  | j + 1 => by
    obtain ⟨h1, h2, h3⟩ := keepF_ok q l j
    cases hq : q j with
    | true =>
      have e : keepF q l (j + 1) = keepF q l j := by rw [keepF, if_pos hq]
      rw [e]
      refine ⟨fun t ht => ?_, fun i hi hi2 => ?_, fun hr => h3 fun a b hab hb => hr a b hab (by omega)⟩
      · obtain ⟨i, hi, h4⟩ := h1 t ht
        exact ⟨i, by omega, h4⟩
      · by_cases hij : i = j
        · subst hij; rw [hq] at hi2; cases hi2
        · exact h2 i (by omega) hi2
    | false =>
      have e : keepF q l (j + 1) = (keepF q l j).snoc (l.f j) := by rw [keepF, if_neg (by rw [hq]; simp)]
      rw [e]
      have hf : ∀ t, ((keepF q l j).snoc (l.f j)).f t = if t < (keepF q l j).n then (keepF q l j).f t else l.f j := fun _ => rfl
      have hn : ((keepF q l j).snoc (l.f j)).n = (keepF q l j).n + 1 := rfl
      refine ⟨fun t ht => ?_, fun i hi hi2 => ?_, fun hr s t hst ht => ?_⟩
      · rw [hf]
        by_cases htn : t < (keepF q l j).n
        · rw [if_pos htn]
          obtain ⟨i, hi, h4⟩ := h1 t htn
          exact ⟨i, by omega, h4⟩
        · rw [if_neg htn]
          exact ⟨j, by omega, hq, rfl⟩
      · by_cases hij : i = j
        · subst hij
          exact ⟨(keepF q l i).n, by rw [hn]; omega, by rw [hf, if_neg (Nat.lt_irrefl _)]⟩
        · obtain ⟨t, ht, h4⟩ := h2 i (by omega) hi2
          exact ⟨t, by rw [hn]; omega, by rw [hf, if_pos ht]; exact h4⟩
      · rw [hn] at ht
        rw [hf, hf, if_pos (by omega)]
        by_cases htn : t < (keepF q l j).n
        · rw [if_pos htn]
          exact h3 (fun a b hab hb => hr a b hab (by omega)) s t hst htn
        · rw [if_neg htn]
          obtain ⟨i, hi, _, h4⟩ := h1 s (by omega)
          rw [h4]
          exact hr i j hi (by omega)

/-- How many open files read a pipe, and write it: no fewer than none. -/
theorem endsJ_bound (p : Prc) (y : Int) : ∀ (k j : Nat) (a b : Int), 0 ≤ a → 0 ≤ b → a + k ≤ 1000000000 → b + k ≤ 1000000000 → a ≤ (endsJ p y k j a b).1 ∧ (endsJ p y k j a b).1 ≤ a + k ∧ b ≤ (endsJ p y k j a b).2 ∧ (endsJ p y k j a b).2 ≤ b + k ∧
    ((endsJ p y k j a b).1 + (endsJ p y k j a b).2 = a + b ↔ ∀ t, j ≤ t → t < j + k → ¬ ((p.n (68 + 3 * t) = 4 ∨ p.n (68 + 3 * t) = 5) ∧ p.n (69 + 3 * t) = y))
  | 0, j, a, b, h1, h2, _, _ => ⟨Int.le_refl _, by simp [endsJ], Int.le_refl _, by simp [endsJ], ⟨fun _ t h3 h4 => by omega, fun _ => rfl⟩⟩
  | k + 1, j, a, b, h1, h2, h3, h4 => by
    have hw1 : IntKind.i64.wrap (a + 1) = a + 1 := IntWalk.i64_in _ (by omega)
    have hw2 : IntKind.i64.wrap (b + 1) = b + 1 := IntWalk.i64_in _ (by omega)
    have hsplit : (∀ t, j ≤ t → t < j + (k + 1) → ¬ ((p.n (68 + 3 * t) = 4 ∨ p.n (68 + 3 * t) = 5) ∧ p.n (69 + 3 * t) = y)) ↔ (¬ ((p.n (68 + 3 * j) = 4 ∨ p.n (68 + 3 * j) = 5) ∧ p.n (69 + 3 * j) = y)) ∧ ∀ t, j + 1 ≤ t → t < j + 1 + k → ¬ ((p.n (68 + 3 * t) = 4 ∨ p.n (68 + 3 * t) = 5) ∧ p.n (69 + 3 * t) = y) := by
      refine ⟨fun h => ⟨h j (by omega) (by omega), fun t h5 h6 => h t (by omega) (by omega)⟩, fun h t h5 h6 => ?_⟩
      by_cases ht : t = j
      · subst ht; exact h.1
      · exact h.2 t (by omega) (by omega)
    simp only [endsJ, incI]
    rw [hsplit, hw1, hw2]
    by_cases hy : p.n (69 + 3 * j) = y
    · by_cases c4 : p.n (68 + 3 * j) = 4
      · have e1 : (p.n (68 + 3 * j) == 4 && p.n (69 + 3 * j) == y) = true := by simp [c4, hy]
        have e2 : (p.n (68 + 3 * j) == 5 && p.n (69 + 3 * j) == y) = false := by simp [c4]
        rw [e1, e2]
        simp only [if_true, Bool.false_eq_true, if_false]
        obtain ⟨g1, g2, g3, g4, g5⟩ := endsJ_bound p y k (j + 1) (a + 1) b (by omega) h2 (by omega) (by omega)
        refine ⟨by omega, by omega, g3, by omega, ⟨fun h => by omega, fun h => absurd ⟨.inl c4, hy⟩ h.1⟩⟩
      · by_cases c5 : p.n (68 + 3 * j) = 5
        · have e1 : (p.n (68 + 3 * j) == 4 && p.n (69 + 3 * j) == y) = false := by simp [c5]
          have e2 : (p.n (68 + 3 * j) == 5 && p.n (69 + 3 * j) == y) = true := by simp [c5, hy]
          rw [e1, e2]
          simp only [if_true, Bool.false_eq_true, if_false]
          obtain ⟨g1, g2, g3, g4, g5⟩ := endsJ_bound p y k (j + 1) a (b + 1) h1 (by omega) (by omega) (by omega)
          refine ⟨g1, by omega, by omega, by omega, ⟨fun h => by omega, fun h => absurd ⟨.inr c5, hy⟩ h.1⟩⟩
        · have e1 : (p.n (68 + 3 * j) == 4 && p.n (69 + 3 * j) == y) = false := by simp [c4]
          have e2 : (p.n (68 + 3 * j) == 5 && p.n (69 + 3 * j) == y) = false := by simp [c5]
          rw [e1, e2]
          simp only [Bool.false_eq_true, if_false]
          obtain ⟨g1, g2, g3, g4, g5⟩ := endsJ_bound p y k (j + 1) a b h1 h2 (by omega) (by omega)
          refine ⟨g1, by omega, g3, by omega, ⟨fun h => ⟨fun h6 => ?_, g5.1 h⟩, fun h => g5.2 h.2⟩⟩
          rcases h6.1 with h7 | h7
          · exact c4 h7
          · exact c5 h7
    · have e1 : (p.n (68 + 3 * j) == 4 && p.n (69 + 3 * j) == y) = false := by simp [hy]
      have e2 : (p.n (68 + 3 * j) == 5 && p.n (69 + 3 * j) == y) = false := by simp [hy]
      rw [e1, e2]
      simp only [Bool.false_eq_true, if_false]
      obtain ⟨g1, g2, g3, g4, g5⟩ := endsJ_bound p y k (j + 1) a b h1 h2 (by omega) (by omega)
      exact ⟨g1, by omega, g3, by omega, ⟨fun h => ⟨fun h6 => hy h6.2, g5.1 h⟩, fun h => g5.2 h.2⟩⟩
def usesP (p : Prc) (y : Int) : Prop := ∃ t, t < 8 ∧ (p.n (68 + 3 * t) = 4 ∨ p.n (68 + 3 * t) = 5) ∧ p.n (69 + 3 * t) = y
theorem endsI_bound (m : Mac) (y : Int) : ∀ (k i : Nat) (a b : Int), 0 ≤ a → 0 ≤ b → a + 8 * k ≤ 1000000000 → b + 8 * k ≤ 1000000000 → a ≤ (endsI m y k i a b).1 ∧ (endsI m y k i a b).1 ≤ a + 8 * k ∧ b ≤ (endsI m y k i a b).2 ∧ (endsI m y k i a b).2 ≤ b + 8 * k ∧
    ((endsI m y k i a b).1 + (endsI m y k i a b).2 = a + b ↔ ∀ t, i ≤ t → t < i + k → ¬ usesP (m.procs.f t) y)
  | 0, j, a, b, h1, h2, _, _ => ⟨Int.le_refl _, by simp [endsI], Int.le_refl _, by simp [endsI], ⟨fun _ t h3 h4 => by omega, fun _ => rfl⟩⟩
  | k + 1, i, a, b, h1, h2, h3, h4 => by
    obtain ⟨g1, g2, g3, g4, g5⟩ := endsJ_bound (m.procs.f i) y 8 0 a b h1 h2 (by omega) (by omega)
    have hu : (∀ t, 0 ≤ t → t < 0 + 8 → ¬ (((m.procs.f i).n (68 + 3 * t) = 4 ∨ (m.procs.f i).n (68 + 3 * t) = 5) ∧ (m.procs.f i).n (69 + 3 * t) = y)) ↔ ¬ usesP (m.procs.f i) y :=
      ⟨fun h ⟨t, h5, h6⟩ => h t (Nat.zero_le _) (by omega) h6, fun h t _ h5 h6 => h ⟨t, by omega, h6⟩⟩
    rw [hu] at g5
    simp only [endsI]
    obtain ⟨f1, f2, f3, f4, f5⟩ := endsI_bound m y k (i + 1) (endsJ (m.procs.f i) y 8 0 a b).1 (endsJ (m.procs.f i) y 8 0 a b).2 (by omega) (by omega) (by omega) (by omega)
    refine ⟨by omega, by omega, by omega, by omega, ?_⟩
    constructor
    · intro h t h5 h6
      by_cases ht : t = i
      · subst ht; exact g5.1 (by omega)
      · exact f5.1 (by omega) t (by omega) (by omega)
    · intro h
      have e1 := g5.2 (h i (by omega) (by omega))
      have e2 := f5.2 fun t h5 h6 => h t (by omega) (by omega)
      omega
theorem gone_iff (m : Mac) (y : Int) (hn : m.procs.n ≤ 4096) : gone m y = true ↔ ∀ t, t < m.procs.n → ¬ usesP (m.procs.f t) y := by
  obtain ⟨g1, g2, g3, g4, g5⟩ := endsI_bound m y m.procs.n 0 0 0 (by omega) (by omega) (by omega) (by omega)
  have g1 : 0 ≤ (endsF m y).1 := g1
  have g2 : (endsF m y).1 ≤ 0 + 8 * m.procs.n := g2
  have g3 : 0 ≤ (endsF m y).2 := g3
  have g4 : (endsF m y).2 ≤ 0 + 8 * m.procs.n := g4
  have g5 : (endsF m y).1 + (endsF m y).2 = 0 + 0 ↔ _ := g5
  unfold gone
  rw [IntWalk.i64_in _ (by omega), beq_iff_eq]
  constructor
  · intro h t ht
    exact g5.1 (by omega) t (Nat.zero_le _) (by omega)
  · intro h
    have := g5.2 fun t _ h6 => h t (by omega)
    omega
end Go.Hb
