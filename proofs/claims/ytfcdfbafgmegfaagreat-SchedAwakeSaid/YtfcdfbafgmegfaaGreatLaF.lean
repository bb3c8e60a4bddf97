/-
  THE PLAIN LAW of 'StateSpoilt': what a machine that may be must be; one thing wrong, and it may not be.
-/
import Derived.Test.YtfcdfbafgmegfaaGreatLaC
namespace Go.Hb
open Go.RowKit Go.Proofs

/-- What Check asks, point by point. -/
structure Whole (m : Mac) : Prop where
  fine : Fine m
  pipes : m.pipes.n ≤ 64
  right : rightK m m.pipes.n 0 = true
  inn : m.inn.size ≤ 65536
  init : m.init.size ≤ 128
  disk : diskF m = 0
theorem whole_of {m : Mac} (h : checkF m = 0) : Whole m := by
  have hf := fine_of h
  have h1 := hf.quantum
  have h2 := hf.next
  have h3 := hf.newpipe
  have h4 := hf.frames
  have h5 := hf.left
  have h6 := hf.cur
  unfold checkF at h
  rw [if_neg (by omega), if_neg (by omega), chkFrames_some] at h
  split at h
  · cases h
  · have h7 := hf.procs
    rw [if_neg (by omega), chkProcs_ps] at h
    split at h
    · split at h
      · cases h
      · rw [chkPipes_right] at h
        split at h
        · rename_i hr
          unfold chkEnd at h
          split at h
          · cases h
          · exact ⟨hf, by omega, hr, by omega, by omega, h⟩
        · cases h
    · cases h

theorem rightK_at (m : Mac) : ∀ k i, rightK m k i = true → ∀ t, i ≤ t → t < i + k → 1 ≤ (m.pipes.f t).n ∧ (m.pipes.f t).n ≤ m.newpipe - 1
  | 0, i, _, t, h1, h2 => by omega
  | k + 1, i, h, t, h1, h2 => by
    simp only [rightK] at h
    split at h
    · cases h
    · rename_i hc
      by_cases ht : t = i
      · subst ht
        by_cases hq : 1 ≤ (m.pipes.f t).n ∧ (m.pipes.f t).n ≤ m.newpipe - 1
        · exact hq
        · exact absurd (.inr (.inl hq)) hc
      · exact rightK_at m k (i + 1) h t (by omega) (by omega)

theorem home_blocks {d : Drv} (h : drvF d = 0) : d.blocks.n ≤ 256 := by
  unfold drvF at h
  split at h
  · cases h
  · omega
theorem homeF_n {d : Drv} (h : drvF d = 0) : (homeF d).n = d.blocks.n - 33 ∨ (homeF d).n = 0 := by
  unfold homeF
  split
  · exact .inr rfl
  · exact .inl rfl
structure DiskOk (m : Mac) : Prop where
  drv : drvF m.drive = 0
  home : (homeF m.drive).n ≠ 0
  dirty : m.dirty.n ≤ 32
  each : dirtyK m (homeF m.drive).n m.dirty.n 0 = 0
theorem disk_of {m : Mac} (h : diskF m = 0) : DiskOk m := by
  unfold diskF at h
  split at h
  · omega
  · split at h
    · cases h
    · split at h
      · cases h
      · exact ⟨by omega, by assumption, by omega, h⟩
theorem dirtyK_at (m : Mac) (n : Nat) : ∀ k i, dirtyK m n k i = 0 → (∀ t, i ≤ t → t < i + k → 0 ≤ (m.dirty.f t).n ∧ (m.dirty.f t).n < n) ∧ (ofF (volF m)).2 = 0
  | 0, i, h => ⟨fun t h1 h2 => by omega, h⟩
  | k + 1, i, h => by
    simp only [dirtyK] at h
    split at h
    · cases h
    · obtain ⟨h1, h2⟩ := dirtyK_at m n k (i + 1) h
      refine ⟨fun t h3 h4 => ?_, h2⟩
      by_cases ht : t = i
      · subst ht; omega
      · exact h1 t (by omega) (by omega)
theorem drvK2_at (d : Drv) : ∀ k i, drvK2 d k i = 0 → ∀ t, i ≤ t → t < i + k → (d.pending.f t).s.size = 128
  | 0, i, _, t, h1, h2 => by omega
  | k + 1, i, h, t, h1, h2 => by
    simp only [drvK2] at h
    split at h
    · cases h
    · split at h
      · cases h
      · by_cases ht : t = i
        · subst ht; omega
        · exact drvK2_at d k (i + 1) h t (by omega) (by omega)
theorem drvK1_at (d : Drv) : ∀ k i, drvK1 d k i = 0 → drvK2 d d.pending.n 0 = 0
  | 0, _, h => h
  | k + 1, i, h => by
    simp only [drvK1] at h
    split at h
    · cases h
    · exact drvK1_at d k (i + 1) h
theorem drvF_pend {d : Drv} (h : drvF d = 0) : drvK2 d d.pending.n 0 = 0 := by
  unfold drvF at h
  split at h
  · cases h
  · exact drvK1_at d _ _ h
theorem ofF_zero {v : Sq ByteArray} (h : (ofF v).2 = 0) : strEq (v.f 0) (headF (planG v.n (ofNum v))) = true := by
  unfold ofF at h
  split at h
  · cases h
  · have hs : ∀ k i, (ofSizes v k i).2 = 0 → (ofHead v).2 = 0 := by
      intro k
      induction k with
      | zero => intro i h; exact h
      | succ k ih =>
        intro i h
        simp only [ofSizes] at h
        split at h
        · cases h
        · exact ih (i + 1) h
    have h1 := hs _ _ h
    unfold ofHead at h1
    split at h1
    · cases h1
    · split at h1
      · cases h1
      · simp_all

/-- A row with one more at its end. -/
def Sq.snoc {α : Type} (l : Sq α) (x : α) : Sq α := ⟨l.n + 1, fun j => if j < l.n then l.f j else x⟩
theorem Sq.snoc_last {α : Type} (l : Sq α) (x : α) : (l.snoc x).f l.n = x := by simp [Sq.snoc]

theorem spoilt0 (m : Mac) : checkF { m with quantum := 0 } ≠ 0 := fun h => by have h1 : 1 ≤ (0 : Int) ∧ _ := (fine_of h).quantum; omega
theorem spoilt1 (m : Mac) (q : Int) (hq : q = m.quantum + 1) : checkF { m with left := q } ≠ 0 := fun h => by have h1 : 0 ≤ q ∧ q ≤ m.quantum := (fine_of h).left; omega
theorem spoilt2 (m : Mac) (x : ByteArray) (hx : x.size = 1) : checkF { m with frames := m.frames.snoc x } ≠ 0 := fun h => by
  have h1 : ((m.frames.snoc x).f m.frames.n).size = 128 := (fine_of h).frame m.frames.n (Nat.lt_succ_self _)
  rw [Sq.snoc_last] at h1
  omega
theorem sProc_pid {m : Mac} {p : Prc} (h : sProc m p = true) : p.n 0 ≤ m.next - 1 := by
  unfold sProc at h
  split at h
  · cases h
  · rename_i hc
    by_cases h1 : p.n 0 ≤ m.next - 1
    · exact h1
    · exact absurd (.inl fun h => h1 h.2) hc
theorem spoilt3 (m : Mac) (x : Prc) (hx : x.n 0 = m.next) : checkF { m with procs := m.procs.snoc x } ≠ 0 := fun h => by
  have h1 : procF { m with procs := m.procs.snoc x } ((m.procs.snoc x).f m.procs.n) = true := (fine_of h).proc m.procs.n (Nat.lt_succ_self _)
  rw [Sq.snoc_last] at h1
  have h2 := sProc_pid ((procF_iff _ _).1 h1).1
  have h2 : x.n 0 ≤ m.next - 1 := h2
  omega
theorem spoilt4 (m : Mac) (x : Num) (hx : x.n = m.newpipe) : checkF { m with pipes := m.pipes.snoc x } ≠ 0 := fun h => by
  have h1 : 1 ≤ ((m.pipes.snoc x).f m.pipes.n).n ∧ ((m.pipes.snoc x).f m.pipes.n).n ≤ m.newpipe - 1 := rightK_at _ _ 0 (whole_of h).right m.pipes.n (Nat.zero_le _) (by show m.pipes.n < 0 + (m.pipes.n + 1); omega)
  rw [Sq.snoc_last] at h1
  omega
theorem spoilt5 (m : Mac) (x : ByteArray) (hx : x.size = 129) : checkF { m with init := x } ≠ 0 := fun h => by have h1 : x.size ≤ 128 := (whole_of h).init; omega
theorem spoilt6 (m : Mac) (f : Nat → ByteArray) : checkF { m with drive := { m.drive with blocks := ⟨0, f⟩ } } ≠ 0 := fun h => by
  have h1 := disk_of (whole_of h).disk
  rcases homeF_n h1.drv with h2 | h2
  · exact h1.home h2
  · exact h1.home h2
theorem spoilt7 (m : Mac) (x : Num) (hx : x.n = 223) : checkF { m with dirty := m.dirty.snoc x } ≠ 0 := fun h => by
  have h1 := disk_of (whole_of h).disk
  have h2 : 0 ≤ ((m.dirty.snoc x).f m.dirty.n).n ∧ ((m.dirty.snoc x).f m.dirty.n).n < (homeF m.drive).n := (dirtyK_at _ _ _ _ h1.each).1 m.dirty.n (Nat.zero_le _) (by show m.dirty.n < 0 + (m.dirty.n + 1); omega)
  rw [Sq.snoc_last] at h2
  have h3 : m.drive.blocks.n ≤ 256 := home_blocks h1.drv
  rcases homeF_n (d := m.drive) h1.drv with h4 | h4 <;> omega
theorem spoilt8 (m : Mac) (x : Num) (hx : x.n = 0) (hs : ∀ g, strEq x.s (headF g) = false) (l : Sq Num) (hl : l.n = 1) (hl0 : l.f 0 = x) : checkF { m with dirty := l } ≠ 0 := fun h => by
  have h1 := disk_of (whole_of h).disk
  have h2 := ofF_zero (dirtyK_at _ _ _ _ h1.each).2
  have h3 : (homeF m.drive).n ≠ 0 := h1.home
  have h4 : (volF { m with dirty := l }).f 0 = x.s := by
    show (volK l l.n 0 (homeF m.drive)).f 0 = x.s
    rw [hl]
    simp only [volK]
    rw [hl0, hx, if_pos (by omega)]
    rfl
  rw [h4, hs] at h2
  cases h2
theorem spoilt9 (m : Mac) (x : Num) (hx : x.s.size = 0) : checkF { m with drive := { m.drive with pending := m.drive.pending.snoc x } } ≠ 0 := fun h => by
  have h1 := disk_of (whole_of h).disk
  have h2 : ((m.drive.pending.snoc x).f m.drive.pending.n).s.size = 128 := drvK2_at _ _ _ (drvF_pend h1.drv) m.drive.pending.n (Nat.zero_le _) (by show m.drive.pending.n < 0 + (m.drive.pending.n + 1); omega)
  rw [Sq.snoc_last] at h2
  omega
end Go.Hb
