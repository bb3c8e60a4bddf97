/-
  THE PLAIN LAW of 'SchedAwake': behind a waking nobody who waits could go on, and the machine may be.
-/
import Derived.Test.YtfcdfbafgmegfaaGreatFnO
import Derived.Test.YtfcdfbafgmegfaaGreatLaF
namespace Go.Hb
open Go.RowKit Go.Proofs

theorem wake_n (m : Mac) : (wakeM m).procs.n = m.procs.n := rfl
theorem wake_f (m : Mac) {i : Nat} (hi : i < m.procs.n) : (wakeM m).procs.f i = wakeP m (m.procs.f i) := by
  show (if i < m.procs.n then wakeP m (m.procs.f i) else m.procs.f i) = _
  rw [if_pos hi]
/-- What a waking leaves. -/
theorem woke_n {m : Mac} {p : Prc} {j : Nat} (h2 : j ≠ 2) (h94 : j ≠ 94) (h95 : j ≠ 95) : (wakeP m p).n j = p.n j := by
  unfold wakeP
  split
  · simp only [wokeP]; rw [if_neg h2, if_neg h94, if_neg h95]
  · rfl
theorem woke_b {m : Mac} {p : Prc} : (wakeP m p).b = p.b := by unfold wakeP; split <;> rfl
theorem goes_waits {m : Mac} {p : Prc} (h : goesF m p = true) : p.n 2 = 2 := by
  simp only [goesF, Bool.and_eq_true, beq_iff_eq] at h; exact h.1
theorem woke_dead {m : Mac} {p : Prc} : (wakeP m p).n 2 = 3 ↔ p.n 2 = 3 := by
  unfold wakeP
  split
  · rename_i h
    have h2 := goes_waits h
    show (1 : Int) = 3 ↔ p.n 2 = 3
    omega
  · exact Iff.rfl
theorem woke_live {m : Mac} {p : Prc} : ((wakeP m p).n 2 == 1 || (wakeP m p).n 2 == 2) = (p.n 2 == 1 || p.n 2 == 2) := by
  unfold wakeP
  split
  · rename_i h
    rw [goes_waits h]; rfl
  · rfl

theorem wake_endsJ (m : Mac) (p : Prc) (y : Int) : ∀ k j a b, j + k ≤ 8 → endsJ (wakeP m p) y k j a b = endsJ p y k j a b
  | 0, _, _, _, _ => rfl
  | k + 1, j, a, b, h => by
    simp only [endsJ]
    rw [woke_n (j := 68 + 3 * j) (by omega) (by omega) (by omega), woke_n (j := 69 + 3 * j) (by omega) (by omega) (by omega)]
    exact wake_endsJ m p y k (j + 1) _ _ (by omega)
theorem wake_ends (m : Mac) (y : Int) : ∀ k i a b, i + k ≤ m.procs.n → endsI (wakeM m) y k i a b = endsI m y k i a b
  | 0, _, _, _, _ => rfl
  | k + 1, i, a, b, h => by
    simp only [endsI]
    rw [wake_f m (by omega), wake_endsJ m _ y 8 0 a b (by omega)]
    exact wake_ends m y k (i + 1) _ _ (by omega)
theorem wake_endsF (m : Mac) (y : Int) : endsF (wakeM m) y = endsF m y := wake_ends m y m.procs.n 0 0 0 (by omega)
theorem wake_kid (m : Mac) (par y : Int) : ∀ k i b, i + k ≤ m.procs.n → childK (wakeM m) par y k i b = childK m par y k i b
  | 0, _, _, _ => rfl
  | k + 1, i, b, h => by
    have e : kidB (wakeM m) par y i = kidB m par y i := by
      unfold kidB
      rw [wake_f m (by omega), woke_n (j := 1) (by omega) (by omega) (by omega), woke_n (j := 0) (by omega) (by omega) (by omega)]
    have e3 : ((wakeM m).procs.f i).n 2 = 3 ↔ (m.procs.f i).n 2 = 3 := by rw [wake_f m (by omega)]; exact woke_dead
    simp only [childK]
    rw [e]
    by_cases h3 : (m.procs.f i).n 2 = 3
    · rw [if_pos (e3.2 h3), if_pos h3, wake_kid m par y k (i + 1) b (by omega)]
    · rw [if_neg (fun h => h3 (e3.1 h)), if_neg h3, wake_kid m par y k (i + 1) b (by omega), wake_kid m par y k (i + 1) false (by omega)]
theorem wake_could (m : Mac) (p : Prc) : couldB (wakeM m) p = couldB m p := by
  unfold couldB childF
  rw [wake_kid m _ _ m.procs.n 0 true (by omega) |> (show childK (wakeM m) (p.n 0) (p.n 95) (wakeM m).procs.n 0 true = childK m (p.n 0) (p.n 95) m.procs.n 0 true from ·)]
  rw [wake_endsF]
  rfl
theorem wake_goes (m : Mac) (p : Prc) : goesF (wakeM m) p = goesF m p := by
  unfold goesF
  rw [wake_could]
theorem wake_none (m : Mac) (p : Prc) : goesF m (wakeP m p) = false := by
  unfold wakeP
  cases h : goesF m p with
  | false => rw [if_neg (by simp)]; exact h
  | true => rw [if_pos rfl]; rfl
theorem wake_twice (m : Mac) {i : Nat} (hi : i < m.procs.n) : (wakeM (wakeM m)).procs.f i = (wakeM m).procs.f i := by
  rw [wake_f (wakeM m) (show i < (wakeM m).procs.n from hi), wake_f m hi]
  show (if goesF (wakeM m) (wakeP m (m.procs.f i)) then _ else _) = _
  rw [wake_goes, wake_none]; rfl

/-- Who lives, and who has frames, is not another one. -/
theorem wake_lives (m : Mac) (pid : Int) : ∀ k i, i + k ≤ m.procs.n → livesK (wakeM m) pid k i = livesK m pid k i
  | 0, _, _ => rfl
  | k + 1, i, h => by
    simp only [livesK]
    rw [wake_f m (by omega), woke_n (j := 0) (by omega) (by omega) (by omega), woke_live, wake_lives m pid k (i + 1) (by omega)]
theorem wake_livesF (m : Mac) (pid : Int) : livesF (wakeM m) pid = livesF m pid := wake_lives m pid m.procs.n 0 (by omega)
theorem wake_frs (m : Mac) (p : Prc) : ∀ k j, j + k ≤ 16 → frs (wakeP m p) k j = frs p k j
  | 0, _, _ => rfl
  | k + 1, j, h => by
    simp only [frs]
    rw [woke_b, wake_frs m p k (j + 1) (by omega)]
    have : pgFr (wakeP m p) j = pgFr p j := woke_n (j := 22 + 3 * j) (by omega) (by omega) (by omega)
    rw [this]
theorem wake_allFrs (m : Mac) : ∀ k i, i + k ≤ m.procs.n → allFrs (wakeM m) k i = allFrs m k i
  | 0, _, _ => rfl
  | k + 1, i, h => by
    simp only [allFrs]
    rw [wake_f m (by omega), wake_frs m _ 16 0 (by omega), wake_allFrs m k (i + 1) (by omega)]
theorem wake_page (m : Mac) (p : Prc) (j : Nat) (hj : j < 16) (h : ¬ pageBad m p j) : ¬ pageBad (wakeM m) (wakeP m p) j := fun hb => h (by
  have e1 : (wakeP m p).n (22 + 3 * j) = p.n (22 + 3 * j) := woke_n (by omega) (by omega) (by omega)
  have e2 : (wakeP m p).b (20 + 3 * j) = p.b (20 + 3 * j) := by rw [woke_b]
  have e3 : pteNone (wakeP m p) j = pteNone p j := by
    unfold pteNone
    rw [woke_b, e1]
  have e4 : usersF (wakeM m) (p.n (22 + 3 * j)) = usersF m (p.n (22 + 3 * j)) := by rw [users_count, users_count, wake_n, wake_allFrs m m.procs.n 0 (by omega)]
  unfold pageBad at hb ⊢
  rw [e1, e2, e3, e4] at hb
  rcases hb with hb | ⟨hb, h3 | h3⟩
  · exact .inl hb
  · exact .inr ⟨hb, .inl (woke_dead.1 h3)⟩
  · exact .inr ⟨hb, .inr h3⟩)
theorem wake_fds (m : Mac) (p : Prc) : ∀ k j, j + k ≤ 8 → procFds (wakeM m) (wakeP m p) k j = procFds m p k j
  | 0, _, _ => rfl
  | k + 1, j, h => by
    simp only [procFds]
    rw [wake_fds m p k (j + 1) (by omega), woke_n (j := 68 + 3 * j) (by omega) (by omega) (by omega), woke_n (j := 69 + 3 * j) (by omega) (by omega) (by omega), woke_n (j := 70 + 3 * j) (by omega) (by omega) (by omega)]
    have e : fdF (wakeM m) (p.n (68 + 3 * j)) (p.n (69 + 3 * j)) (p.n (70 + 3 * j)) = fdF m (p.n (68 + 3 * j)) (p.n (69 + 3 * j)) (p.n (70 + 3 * j)) := rfl
    rw [e]
    by_cases hc : fdF m (p.n (68 + 3 * j)) (p.n (69 + 3 * j)) (p.n (70 + 3 * j)) = false ∨ (p.n 2 = 3 ∧ p.n (68 + 3 * j) ≠ 0)
    · rw [if_pos hc, if_pos (hc.imp id fun h => ⟨woke_dead.2 h.1, h.2⟩)]
    · rw [if_neg hc, if_neg fun h => hc (h.imp id fun h => ⟨woke_dead.1 h.1, h.2⟩)]
theorem wake_sproc (m : Mac) (p : Prc) (h : sProc m p = true) : sProc (wakeM m) (wakeP m p) = true := by
  rw [sProc_iff] at h ⊢
  obtain ⟨h1, h2, h3, h4, h5, h6⟩ := h
  have hl : liveB (wakeP m p) = liveB p := woke_live
  refine ⟨?_, ?_, ?_, ?_, ?_, ?_⟩
  · rw [woke_n (j := 0) (by omega) (by omega) (by omega)]; exact h1
  · rw [hl]; exact h2.imp id woke_dead.2
  · unfold parB at h3 ⊢
    rw [hl, woke_n (j := 1) (by omega) (by omega) (by omega), wake_livesF]; exact h3
  · rw [woke_n (j := 3) (by omega) (by omega) (by omega)]; exact h4
  · rw [woke_n (j := 93) (by omega) (by omega) (by omega)]
    cases hg : goesF m p with
    | false =>
      have e : wakeP m p = p := by unfold wakeP; rw [hg]; rfl
      rw [e]; exact h5
    | true =>
      have e2 : (wakeP m p).n 2 = 1 := by unfold wakeP; rw [hg]; rfl
      have e94 : (wakeP m p).n 94 = 0 := by unfold wakeP; rw [hg]; rfl
      have e95 : (wakeP m p).n 95 = 0 := by unfold wakeP; rw [hg]; rfl
      have hw := goes_waits hg
      rw [e2, e94, e95]
      omega
  · rw [wake_fds m p 8 0 (by omega)]; exact h6
theorem chkPipes_wake (m : Mac) (k i : Nat) : chkPipes (wakeM m) k i = chkPipes m k i := by kernel_rfl
theorem checkF_wake {m : Mac} (h : checkF m = 0) : checkF (wakeM m) = 0 := by
  have hf := fine_of h
  have h1 := hf.quantum
  have h2 := hf.next
  have h3 := hf.newpipe
  have h4 := hf.frames
  have h5 := hf.left
  have h6 := hf.cur
  have h7 := hf.procs
  unfold checkF at h
  rw [if_neg (by omega), if_neg (by omega), chkFrames_some] at h
  have e : checkF (wakeM m) = chkFrames (wakeM m) m.frames.n 0 := by
    unfold checkF
    rw [if_neg (show ¬ ((wakeM m).quantum < 1 ∨ (wakeM m).quantum > 1000 ∨ (wakeM m).left < 0 ∨ (wakeM m).left > (wakeM m).quantum ∨ (wakeM m).cur < 0 ∨ (wakeM m).next < 1 ∨ (wakeM m).next > 1000000000 ∨ (wakeM m).newpipe < 1 ∨ (wakeM m).newpipe > 1000000000) from (show ¬ (m.quantum < 1 ∨ m.quantum > 1000 ∨ m.left < 0 ∨ m.left > m.quantum ∨ m.cur < 0 ∨ m.next < 1 ∨ m.next > 1000000000 ∨ m.newpipe < 1 ∨ m.newpipe > 1000000000) by omega)), if_neg (show ¬ ((wakeM m).frames.n < 1 ∨ (wakeM m).frames.n > 64) from (show ¬ (m.frames.n < 1 ∨ m.frames.n > 64) by omega))]
    rfl
  have hb : bigF (wakeM m) = bigF m := rfl
  rw [e, chkFrames_some, hb]
  split at h
  · cases h
  · rename_i hs
    rw [if_neg hs]
    rw [if_neg (by omega), chkProcs_ps] at h
    rw [if_neg (show ¬ (wakeM m).procs.n > 8 from (show ¬ m.procs.n > 8 by omega)), chkProcs_ps]
    split at h
    · rename_i hp
      have hp2 : psK (wakeM m) (wakeM m).procs.n 0 0 (fun _ => none) = true := by
        rw [psK_iff] at hp ⊢
        intro i hi
        have hi : i < m.procs.n := hi
        obtain ⟨h8, h9⟩ := hp i hi
        rw [wake_f m hi]
        refine ⟨fun h0 => ?_, ?_⟩
        · rw [wake_f m hi, wake_f m (show i - 1 < m.procs.n by omega), woke_n (j := 0) (by omega) (by omega) (by omega), woke_n (j := 0) (by omega) (by omega) (by omega)]
          exact h8 h0
        · rw [procF_iff] at h9 ⊢
          exact ⟨wake_sproc m _ h9.1, fun j hj => wake_page m _ j hj (h9.2 j hj)⟩
      rw [if_pos hp2, chkPipes_wake]
      exact h
    · cases h
/-- Could a process of a machine go on? -/
theorem could_at {m : Mac} (h : Rising m) {i : Nat} (hi : i < m.procs.n) : couldF m ((m.procs.f i).n 0) = goesF m (m.procs.f i) := by
  unfold couldF findI
  rcases @idxF_ok (fun j => (m.procs.f j).n 0 == (m.procs.f i).n 0) m.procs.n 0 with ⟨_, h2⟩ | ⟨j, h1, _, h3, h4, _⟩
  · have := h2 i (Nat.zero_le _) (by omega)
    simp at this
  · have e : j = i := by
      have h4 : (m.procs.f j).n 0 = (m.procs.f i).n 0 := by simpa using h4
      rcases Nat.lt_trichotomy j i with hlt | heq | hgt
      · have := h.lt hlt hi; omega
      · exact heq
      · have := h.lt hgt (by omega); omega
    subst e
    rw [h1, if_neg (by omega), Int.toNat_natCast]
end Go.Hb
