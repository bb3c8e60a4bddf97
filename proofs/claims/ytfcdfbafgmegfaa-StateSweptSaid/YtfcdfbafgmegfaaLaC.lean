/-
  PLAIN LAWS OF CHECK: what the own code's 'procs', 'right' and rows of frames say is what the document's Check says.
-/
import Derived.Test.YtfcdfbafgmegfaaFnS
import Derived.Test.YtfcdfbafgmegfaaFnH
namespace Go.Hb
open Go.RowKit Go.Proofs

theorem procPages_ok (m : Mac) (p : Prc) : ∀ k j, procPages m p k j = true ↔ (∀ t, j ≤ t → t < j + k → ¬ pageBad m p t) ∧ procFds m p 8 0 = true
  | 0, j => by
    simp only [procPages]
    exact ⟨fun h => ⟨fun t h1 h2 => by omega, h⟩, fun h => h.2⟩
  | k + 1, j => by
    simp only [procPages]
    by_cases h : pageBad m p j
    · rw [if_pos h]
      exact ⟨fun h => (by cases h), fun h2 => absurd h (h2.1 j (by omega) (by omega))⟩
    · rw [if_neg h, procPages_ok m p k (j + 1)]
      refine ⟨fun ⟨h2, h5⟩ => ⟨fun t h3 h4 => ?_, h5⟩, fun ⟨h2, h5⟩ => ⟨fun t h3 h4 => h2 t (by omega) (by omega), h5⟩⟩
      by_cases ht : t = j
      · subst ht; exact h
      · exact h2 t (by omega) (by omega)

theorem liveB_iff (p : Prc) : liveB p = true ↔ p.n 2 = 1 ∨ p.n 2 = 2 := by simp [liveB]
theorem parB_iff (m : Mac) (p : Prc) : parB m p = true ↔ (liveB p = true ∧ p.n 1 = 0) ∨ livesF m (p.n 1) = true := by simp [parB]

theorem sProc_iff (m : Mac) (p : Prc) : sProc m p = true ↔ (1 ≤ p.n 0 ∧ p.n 0 ≤ m.next - 1) ∧ (liveB p = true ∨ p.n 2 = 3) ∧ parB m p = true ∧ p.n 3 = 0 ∧
    ¬ ((p.n 2 = 2 ∧ ¬ (1 ≤ p.n 94 ∧ p.n 94 ≤ 5)) ∨ (p.n 2 ≠ 2 ∧ (p.n 94 ≠ 0 ∨ p.n 95 ≠ 0)) ∨ (p.n 2 ≠ 3 ∧ p.n 93 ≠ 0)) ∧ procFds m p 8 0 = true := by
  unfold sProc
  by_cases c1 : ¬ (1 ≤ p.n 0 ∧ p.n 0 ≤ m.next - 1) ∨ (liveB p = false ∧ p.n 2 ≠ 3) ∨ parB m p = false ∨ p.n 3 ≠ 0
  · rw [if_pos c1]
    refine ⟨fun h => (by cases h), fun ⟨h1, h2, h3, h4, _⟩ => ?_⟩
    rcases c1 with c | ⟨c, d⟩ | c | c
    · exact absurd h1 c
    · rcases h2 with h2 | h2
      · rw [h2] at c; cases c
      · exact absurd h2 d
    · rw [h3] at c; cases c
    · exact absurd h4 c
  · rw [if_neg c1]
    have a1 : 1 ≤ p.n 0 ∧ p.n 0 ≤ m.next - 1 := by
      by_cases h : 1 ≤ p.n 0 ∧ p.n 0 ≤ m.next - 1
      · exact h
      · exact absurd (.inl h) c1
    have a2 : liveB p = true ∨ p.n 2 = 3 := by
      cases h : liveB p with
      | true => exact .inl rfl
      | false =>
        by_cases h3 : p.n 2 = 3
        · exact .inr h3
        · exact absurd (.inr (.inl ⟨h, h3⟩)) c1
    have a3 : parB m p = true := by
      cases h : parB m p with
      | true => rfl
      | false => exact absurd (.inr (.inr (.inl h))) c1
    have a4 : p.n 3 = 0 := by
      by_cases h : p.n 3 = 0
      · exact h
      · exact absurd (.inr (.inr (.inr h))) c1
    unfold sWhy
    by_cases c2 : (p.n 2 = 2 ∧ ¬ (1 ≤ p.n 94 ∧ p.n 94 ≤ 5)) ∨ (p.n 2 ≠ 2 ∧ (p.n 94 ≠ 0 ∨ p.n 95 ≠ 0)) ∨ (p.n 2 ≠ 3 ∧ p.n 93 ≠ 0)
    · rw [if_pos c2]
      exact ⟨fun h => (by cases h), fun ⟨_, _, _, _, h, _⟩ => absurd c2 h⟩
    · rw [if_neg c2]
      exact ⟨fun h => ⟨a1, a2, a3, a4, c2, h⟩, fun h => h.2.2.2.2.2⟩

theorem procF_iff (m : Mac) (p : Prc) : procF m p = true ↔ sProc m p = true ∧ ∀ j, j < 16 → ¬ pageBad m p j := by
  have hw : ((p.n 2 == 2) ≠ (p.n 94 != 0)) ↔ ¬ (p.n 2 = 2 ↔ p.n 94 ≠ 0) := by
    have e1 : (p.n 2 == 2) = decide (p.n 2 = 2) := rfl
    have e2 : (p.n 94 != 0) = decide (p.n 94 ≠ 0) := by
      by_cases h : p.n 94 = 0
      · simp [h]
      · simp [h]
    rw [e1, e2]
    by_cases h1 : p.n 2 = 2 <;> by_cases h2 : p.n 94 = 0 <;> simp [h1, h2]
  have hF : procF m p = true ↔ (1 ≤ p.n 0 ∧ p.n 0 < m.next ∧ (p.n 2 = 1 ∨ p.n 2 = 2 ∨ p.n 2 = 3) ∧ p.n 3 = 0) ∧ (livesF m (p.n 1) = true ∨ (p.n 2 ≠ 3 ∧ p.n 1 = 0)) ∧
      ((p.n 2 = 2 ↔ p.n 94 ≠ 0) ∧ 0 ≤ p.n 94 ∧ p.n 94 ≤ 5 ∧ (p.n 2 = 2 ∨ p.n 95 = 0) ∧ (p.n 2 = 3 ∨ p.n 93 = 0)) ∧ (∀ j, j < 16 → ¬ pageBad m p j) ∧ procFds m p 8 0 = true := by
    have hpp := procPages_ok m p 16 0
    have hz : (∀ t, 0 ≤ t → t < 0 + 16 → ¬ pageBad m p t) ↔ ∀ j, j < 16 → ¬ pageBad m p j := ⟨fun h j hj => h j (Nat.zero_le _) (by omega), fun h t _ h2 => h t (by omega)⟩
    rw [hz] at hpp
    rw [← hpp]
    unfold procF
    by_cases c1 : p.n 0 < 1 ∨ p.n 0 ≥ m.next ∨ (p.n 2 ≠ 1 ∧ p.n 2 ≠ 2 ∧ p.n 2 ≠ 3) ∨ p.n 3 ≠ 0
    · rw [if_pos c1]
      refine ⟨fun h => (by cases h), fun ⟨h, _⟩ => ?_⟩
      omega
    · rw [if_neg c1]
      unfold procPar
      by_cases c2 : livesF m (p.n 1) = false ∧ (p.n 2 = 3 ∨ p.n 1 ≠ 0)
      · rw [if_pos c2]
        refine ⟨fun h => (by cases h), fun ⟨_, h, _⟩ => ?_⟩
        rcases h with h | h
        · rw [c2.1] at h; cases h
        · omega
      · rw [if_neg c2]
        have c2' : livesF m (p.n 1) = true ∨ (p.n 2 ≠ 3 ∧ p.n 1 = 0) := by
          cases h : livesF m (p.n 1) with
          | true => exact .inl rfl
          | false => exact .inr ⟨fun h3 => c2 ⟨h, .inl h3⟩, by
              by_cases h1 : p.n 1 = 0
              · exact h1
              · exact absurd ⟨h, .inr h1⟩ c2⟩
        unfold procWhy
        by_cases c3 : (p.n 2 == 2) ≠ (p.n 94 != 0) ∨ p.n 94 < 0 ∨ p.n 94 > 5 ∨ (p.n 2 ≠ 2 ∧ p.n 95 ≠ 0) ∨ (p.n 2 ≠ 3 ∧ p.n 93 ≠ 0)
        · rw [if_pos c3]
          refine ⟨fun h => (by cases h), fun ⟨_, _, h, _⟩ => ?_⟩
          rw [hw] at c3
          exfalso
          rcases c3 with c3 | c3
          · exact c3 h.1
          · omega
        · rw [if_neg c3]
          rw [hw] at c3
          refine ⟨fun h => ⟨by omega, c2', ⟨?_, by omega, by omega, by omega, by omega⟩, h⟩, fun h => h.2.2.2⟩
          by_cases h4 : p.n 2 = 2 ↔ p.n 94 ≠ 0
          · exact h4
          · exact absurd (.inl h4) c3
  rw [hF, sProc_iff, parB_iff, liveB_iff]
  constructor
  · rintro ⟨h1, h2, h3, h4, h5⟩
    refine ⟨⟨by omega, by omega, ?_, by omega, ?_, h5⟩, h4⟩
    · rcases h2 with h2 | h2
      · exact .inr h2
      · exact .inl ⟨by omega, h2.2⟩
    · obtain ⟨h3, h6⟩ := h3
      by_cases h7 : p.n 2 = 2
      · have := h3.1 h7; omega
      · have : p.n 94 = 0 := by
          by_cases h8 : p.n 94 = 0
          · exact h8
          · exact absurd (h3.2 h8) h7
        omega
  · rintro ⟨⟨h1, h2, h3, h4, h5, h6⟩, h7⟩
    refine ⟨by omega, ?_, ⟨⟨fun h => by omega, fun h => by omega⟩, by omega, by omega, by omega, by omega⟩, h7, h6⟩
    rcases h3 with h3 | h3
    · exact .inr ⟨by omega, h3.2⟩
    · exact .inl h3

theorem mem_frs (p : Prc) (y : Int) : ∀ k j, y ∈ frs p k j ↔ ∃ t, j ≤ t ∧ t < j + k ∧ p.b (20 + 3 * t) = true ∧ pgFr p t = y
  | 0, j => by
    simp only [frs, List.not_mem_nil, false_iff]
    rintro ⟨t, h1, h2, _⟩; omega
  | k + 1, j => by
    simp only [frs]
    have hstep : (∃ t, j ≤ t ∧ t < j + (k + 1) ∧ p.b (20 + 3 * t) = true ∧ pgFr p t = y) ↔ (p.b (20 + 3 * j) = true ∧ pgFr p j = y) ∨ ∃ t, j + 1 ≤ t ∧ t < j + 1 + k ∧ p.b (20 + 3 * t) = true ∧ pgFr p t = y := by
      constructor
      · rintro ⟨t, h1, h2, h3⟩
        by_cases ht : t = j
        · subst ht; exact .inl h3
        · exact .inr ⟨t, by omega, by omega, h3⟩
      · rintro (h | ⟨t, h1, h2, h3⟩)
        · exact ⟨j, by omega, by omega, h⟩
        · exact ⟨t, by omega, by omega, h3⟩
    rw [hstep]
    by_cases h : p.b (20 + 3 * j) = true
    · rw [if_pos h, List.mem_cons, mem_frs p y k (j + 1)]
      exact ⟨fun h2 => h2.imp (fun h3 => ⟨h, h3.symm⟩) id, fun h2 => h2.imp (fun h3 => h3.2.symm) id⟩
    · rw [if_neg h, mem_frs p y k (j + 1)]
      exact ⟨.inr, fun h2 => h2.resolve_left fun h3 => h h3.1⟩
theorem mem_allFrs (m : Mac) (y : Int) : ∀ k i, y ∈ allFrs m k i ↔ ∃ t, i ≤ t ∧ t < i + k ∧ y ∈ frs (m.procs.f t) 16 0
  | 0, i => by
    simp only [allFrs, List.not_mem_nil, false_iff]
    rintro ⟨t, h1, h2, _⟩; omega
  | k + 1, i => by
    simp only [allFrs, List.mem_append]
    rw [mem_allFrs m y k (i + 1)]
    constructor
    · rintro (h | ⟨t, h1, h2, h3⟩)
      · exact ⟨i, by omega, by omega, h⟩
      · exact ⟨t, by omega, by omega, h3⟩
    · rintro ⟨t, h1, h2, h3⟩
      by_cases ht : t = i
      · subst ht; exact .inl h3
      · exact .inr ⟨t, by omega, by omega, h3⟩
theorem nodup_of_count : ∀ l : List Int, (∀ y ∈ l, l.count y = 1) → l.Nodup
  | [], _ => List.nodup_nil
  | a :: l, h => by
    have h1 := h a (by simp)
    rw [List.count_cons_self] at h1
    have ha : a ∉ l := List.count_eq_zero.1 (by omega)
    refine List.nodup_cons.2 ⟨ha, nodup_of_count l fun y hy => ?_⟩
    have h2 := h y (by simp [hy])
    have hya : a ≠ y := fun e => ha (e ▸ hy)
    rwa [List.count_cons_of_ne hya] at h2
theorem count_of_nodup : ∀ l : List Int, l.Nodup → ∀ y ∈ l, l.count y = 1
  | a :: l, h, y, hy => by
    have h' := List.nodup_cons.1 h
    by_cases hya : a = y
    · subst hya
      rw [List.count_cons_self, List.count_eq_zero.2 h'.1]
    · rw [List.count_cons_of_ne hya]
      exact count_of_nodup l h'.2 y ((List.mem_cons.1 hy).resolve_left fun e => hya e.symm)

theorem users_count (m : Mac) (y : Int) : usersF m y = (allFrs m m.procs.n 0).count y := usersK_count m y _ _

theorem pages_iff (m : Mac) : (∀ i, i < m.procs.n → ∀ j, j < 16 → ¬ pageBad m (m.procs.f i) j) ↔ (∀ i, i < m.procs.n → ∀ j, j < 16 → pgL m (m.procs.f i) j) ∧ (allFrs m m.procs.n 0).Nodup := by
  constructor
  · intro h
    refine ⟨fun i hi j hj => ?_, nodup_of_count _ fun y hy => ?_⟩
    · have h1 := h i hi j hj
      unfold pgL
      by_cases hb : (m.procs.f i).b (20 + 3 * j) = true
      · rw [if_pos hb]
        refine ⟨?_, ?_, fun h3 => h1 (.inr ⟨hb, .inl h3⟩)⟩
        · by_cases h4 : 0 ≤ pgFr (m.procs.f i) j
          · exact h4
          · exact absurd (.inr ⟨hb, .inr (.inl (by unfold pgFr at h4; omega))⟩) h1
        · by_cases h4 : pgFr (m.procs.f i) j ≤ (m.frames.n : Int) - 1
          · exact h4
          · exact absurd (.inr ⟨hb, .inr (.inr (.inl (by unfold pgFr at h4; omega)))⟩) h1
      · rw [if_neg hb]
        cases hp : pteNone (m.procs.f i) j with
        | true => rfl
        | false => exact absurd (.inl ⟨by simpa using hb, hp⟩) h1
    · obtain ⟨i, _, hi, hy⟩ := (mem_allFrs m y _ _).1 hy
      obtain ⟨j, _, hj, hb, hfr⟩ := (mem_frs _ y _ _).1 hy
      have h1 := h i (by omega) j (by omega)
      rw [← users_count]
      by_cases h4 : (usersF m y : Int) = 1
      · omega
      · exact absurd (.inr ⟨hb, .inr (.inr (.inr (by subst hfr; exact h4)))⟩) h1
  · rintro ⟨h, hn⟩ i hi j hj hbad
    have h1 := h i hi j hj
    unfold pgL at h1
    rcases hbad with ⟨hb, hp⟩ | ⟨hb, hbad⟩
    · rw [if_neg (by rw [hb]; simp), hp] at h1; cases h1
    · rw [if_pos hb] at h1
      obtain ⟨h2, h3, h4⟩ := h1
      rcases hbad with h5 | h5 | h5 | h5
      · exact h4 h5
      · unfold pgFr at h2; omega
      · unfold pgFr at h3; omega
      · apply h5
        show (usersF m (pgFr (m.procs.f i) j) : Int) = 1
        rw [users_count, count_of_nodup _ hn _ ((mem_allFrs m _ _ _).2 ⟨i, by omega, by omega, (mem_frs _ _ _ _).2 ⟨j, by omega, by omega, hb, rfl⟩⟩)]
        rfl

theorem psK_iff (m : Mac) : psK m m.procs.n 0 0 (fun _ => none) = true ↔ ∀ i, i < m.procs.n → rise m i ∧ procF m (m.procs.f i) = true := by
  rw [psK_ok m m.procs.n 0 0 (fun _ => none) [] (fun y => by simp)]
  have hp := pages_iff m
  constructor
  · rintro ⟨h, hn, _⟩ i hi
    have h1 := h i (by omega) (by omega)
    refine ⟨h1.1, (procF_iff _ _).2 ⟨h1.2.1, hp.2 ⟨fun i hi => (h i (by omega) (by omega)).2.2, hn⟩ i hi⟩⟩
  · intro h
    have h2 := hp.1 fun i hi => ((procF_iff _ _).1 (h i hi).2).2
    exact ⟨fun t _ ht => ⟨(h t (by omega)).1, ((procF_iff _ _).1 (h t (by omega)).2).1, h2.1 t (by omega)⟩, h2.2, by simp⟩

theorem chkProcs_all (m : Mac) : ∀ k i, ((∀ t, i ≤ t → t < i + k → rise m t ∧ procF m (m.procs.f t) = true) ∧ chkProcs m k i = chkProcs m 0 0) ∨ ((¬ ∀ t, i ≤ t → t < i + k → rise m t ∧ procF m (m.procs.f t) = true) ∧ chkProcs m k i = 3)
  | 0, i => .inl ⟨fun t h1 h2 => by omega, rfl⟩
  | k + 1, i => by
    simp only [chkProcs]
    by_cases hc : (0 < i ∧ (m.procs.f (i - 1)).n 0 ≥ (m.procs.f i).n 0) ∨ procF m (m.procs.f i) = false
    · rw [if_pos hc]
      refine .inr ⟨fun h => ?_, rfl⟩
      have h1 := h i (by omega) (by omega)
      rcases hc with ⟨h2, h3⟩ | h2
      · have := h1.1 h2; omega
      · rw [h1.2] at h2; cases h2
    · rw [if_neg hc]
      have h1 : rise m i ∧ procF m (m.procs.f i) = true := by
        refine ⟨fun h0 => ?_, ?_⟩
        · have : ¬ ((m.procs.f (i - 1)).n 0 ≥ (m.procs.f i).n 0) := fun h => hc (.inl ⟨h0, h⟩)
          omega
        · cases h : procF m (m.procs.f i) with
          | true => rfl
          | false => exact absurd (.inr h) hc
      rcases chkProcs_all m k (i + 1) with ⟨h2, h3⟩ | ⟨h2, h3⟩
      · refine .inl ⟨fun t h4 h5 => ?_, h3⟩
        by_cases ht : t = i
        · subst ht; exact h1
        · exact h2 t (by omega) (by omega)
      · exact .inr ⟨fun h => h2 fun t h4 h5 => h t (by omega) (by omega), h3⟩
theorem chkProcs_ps (m : Mac) : chkProcs m m.procs.n 0 = if psK m m.procs.n 0 0 (fun _ => none) = true then (if m.pipes.n > 64 then 6 else chkPipes m m.pipes.n 0) else 3 := by
  have h := psK_iff m
  have hz : (∀ t, 0 ≤ t → t < 0 + m.procs.n → rise m t ∧ procF m (m.procs.f t) = true) ↔ ∀ i, i < m.procs.n → rise m i ∧ procF m (m.procs.f i) = true := ⟨fun h j hj => h j (Nat.zero_le _) (by omega), fun h t _ h2 => h t (by omega)⟩
  rcases chkProcs_all m m.procs.n 0 with ⟨h1, h2⟩ | ⟨h1, h2⟩
  · rw [h2, if_pos (h.2 (hz.1 h1))]; rfl
  · rw [h2, if_neg fun h3 => h1 (hz.2 (h.1 h3))]
theorem chkPipes_right (m : Mac) : ∀ k i, chkPipes m k i = if rightK m k i = true then chkEnd m else 3
  | 0, i => rfl
  | k + 1, i => by
    have e1 : chkPipes m (k + 1) i = if (m.pipes.f i).n < 1 ∨ (m.pipes.f i).n ≥ m.newpipe ∨ (0 < i ∧ (m.pipes.f (i - 1)).n ≥ (m.pipes.f i).n) ∨ (m.pipes.f i).s.size > 64 then 3 else chkPipes m k (i + 1) := rfl
    have e2 : rightK m (k + 1) i = if (0 < i ∧ (m.pipes.f (i - 1)).n ≥ (m.pipes.f i).n) ∨ ¬ (1 ≤ (m.pipes.f i).n ∧ (m.pipes.f i).n ≤ m.newpipe - 1) ∨ (m.pipes.f i).s.size > 64 then false else rightK m k (i + 1) := rfl
    rw [e1, e2]
    by_cases h : (m.pipes.f i).n < 1 ∨ (m.pipes.f i).n ≥ m.newpipe ∨ (0 < i ∧ (m.pipes.f (i - 1)).n ≥ (m.pipes.f i).n) ∨ (m.pipes.f i).s.size > 64
    · rw [if_pos h, if_pos (c := (0 < i ∧ (m.pipes.f (i - 1)).n ≥ (m.pipes.f i).n) ∨ ¬ (1 ≤ (m.pipes.f i).n ∧ (m.pipes.f i).n ≤ m.newpipe - 1) ∨ (m.pipes.f i).s.size > 64) (by omega), if_neg (by simp)]
    · rw [if_neg h, if_neg (c := (0 < i ∧ (m.pipes.f (i - 1)).n ≥ (m.pipes.f i).n) ∨ ¬ (1 ≤ (m.pipes.f i).n ∧ (m.pipes.f i).n ≤ m.newpipe - 1) ∨ (m.pipes.f i).s.size > 64) (by omega), chkPipes_right m k (i + 1)]
def bigF (m : Mac) (j : Nat) : Bool := ((m.frames.f j).size : Int) != 128
theorem chkFrames_some (m : Mac) : ∀ k i, chkFrames m k i = if someK (bigF m) k i = true then 3 else (if m.procs.n > 8 then 6 else chkProcs m m.procs.n 0)
  | 0, i => rfl
  | k + 1, i => by
    have e1 : someK (bigF m) (k + 1) i = (bigF m i || someK (bigF m) k (i + 1)) := rfl
    rw [e1]
    by_cases h : (m.frames.f i).size ≠ 128
    · have e2 : chkFrames m (k + 1) i = 3 := by simp only [chkFrames]; rw [if_pos h]
      have e3 : bigF m i = true := by simp only [bigF, bne_iff_ne]; omega
      rw [e2, e3, Bool.true_or, if_pos rfl]
    · have e2 : chkFrames m (k + 1) i = chkFrames m k (i + 1) := by simp only [chkFrames]; rw [if_neg h]
      have e3 : bigF m i = false := by simp only [bigF, bne_eq_false_iff_eq]; omega
      rw [e2, e3, Bool.false_or, chkFrames_some m k (i + 1)]
end Go.Hb
