/-
  THE FUNCTIONS, PART OE: Sweep, and the document's Sweep: the pipes that some open file reads or writes.
-/
import Derived.Test.YtfcdfbafgmegfaaLaI
namespace Go.Hb
open Go.RowKit Go.Proofs
set_option maxRecDepth 100000

theorem aget_two {a b : Nat} {B C D : Box} {k : Nat} (h : aget [(a, B), (b, C)] k = some D) : (k = a ∧ D = B) ∨ (k = b ∧ D = C) := by
  by_cases ha : a = k
  · subst ha
    rw [show aget [(a, B), (b, C)] a = some B by simp only [aget, Nat.beq_refl]] at h
    exact .inl ⟨rfl, (Option.some.inj h).symm⟩
  · have h1 : Nat.beq a k = false := Bool.eq_false_iff.2 fun h => ha (Nat.eq_of_beq_eq_true h)
    by_cases hb : b = k
    · subst hb
      simp only [aget, h1, Nat.beq_refl] at h
      exact .inr ⟨rfl, (Option.some.inj h).symm⟩
    · have h2 : Nat.beq b k = false := Bool.eq_false_iff.2 fun h => hb (Nat.eq_of_beq_eq_true h)
      simp only [aget, h1, h2] at h
      cases h
def goneQ (m : Mac) (i : Nat) : Bool := gone m (m.pipes.f i).n
def sweptL (m : Mac) : Sq Num := keepF (goneQ m) m.pipes m.pipes.n
def sweepM (m : Mac) : Mac := { m with pipes := sweptL m }

theorem del_none (m : Mac) (hn : m.procs.n ≤ 4096) (hl : m.pipes.n ≤ 4096) (h : idxF (goneQ m) m.pipes.n 0 = -1) :
    Spec Try.prog 101 2 [.vec 0, .fn 102 [.ptr 1 0]] [(0, .vec 59 2 m.pipes.n fun i => (m.pipes.f i).e), (1, .cells 30 m.e)] (.vec 0) [(0, .vec 59 2 m.pipes.n fun i => (m.pipes.f i).e), (1, .cells 30 m.e)] := by
  refine specM_of (Try.func101) (by kernel_rfl) (by kernel_rfl) (by kernel_rfl) ?_
  have hx := xindex_spec m m.pipes (by omega) hl
  have hx : Spec Try.prog 129 2 [.vec 0, .fn 102 [.ptr 1 0]] [(0, .vec 59 2 m.pipes.n fun i => (m.pipes.f i).e), (1, .cells 30 m.e)] (.int .i64 (-1)) [(0, .vec 59 2 m.pipes.n fun i => (m.pipes.f i).e), (1, .cells 30 m.e)] := by
    have h' : idxF (fun i => gone m (m.pipes.f i).n) m.pipes.n 0 = -1 := h
    rw [h'] at hx; exact hx
  apply w101_0 m m.pipes (-1)
  case c_t => intro _; exact ⟨hx, rfl, rfl⟩
  case c_f => intro h; cases h

theorem del_some (m : Mac) (hn : m.procs.n ≤ 4096) (hl : m.pipes.n ≤ 4096) {j : Nat} (h : idxF (goneQ m) m.pipes.n 0 = j) (hj : j < m.pipes.n) (hq : goneQ m j = true) (hlow : ∀ t, t < j → goneQ m t = false) :
    Spec Try.prog 101 2 [.vec 0, .fn 102 [.ptr 1 0]] [(0, .vec 59 2 m.pipes.n fun i => (m.pipes.f i).e), (1, .cells 30 m.e)] (.vec 1010) [(1, .cells 30 m.e), (1010, .vec 59 2 (sweptL m).n fun i => ((sweptL m).f i).e)] := by
  have hk := keepF_all (q := goneQ m) (l := m.pipes) (j := j) hlow
  have ek : keepF (goneQ m) m.pipes (j + 1) = keepF (goneQ m) m.pipes j := by rw [keepF, if_pos hq]
  have hgo := del_at m m.pipes (by omega) hl (m.pipes.n - (j + 1)) (j + 1) m.pipes (by omega) rfl
    (by show (keepF (goneQ m) m.pipes (j + 1)).n < j + 1; rw [ek, hk.1]; omega)
    (fun t ht => by
      have ht : t < (keepF (goneQ m) m.pipes (j + 1)).n := ht
      show m.pipes.f t = (keepF (goneQ m) m.pipes (j + 1)).f t
      rw [ek] at ht ⊢
      rw [hk.1] at ht
      exact (hk.2 t ht).symm) (fun t _ => rfl)
  have hkn : (keepF (fun i => gone m (m.pipes.f i).n) m.pipes (j + 1)).n = j := by
    show (keepF (goneQ m) m.pipes (j + 1)).n = j
    rw [ek, hk.1]
  rw [hkn] at hgo
  have hx := xindex_spec m m.pipes (by omega) hl
  have h' : idxF (fun i => gone m (m.pipes.f i).n) m.pipes.n 0 = (j : Int) := h
  rw [h'] at hx
  have hg : GoToM Try.prog 101 2 (fun x y => x = .vec 1010 ∧ ∃ g, y = [(1, .cells 30 m.e), (1010, .vec 59 2 (sweptL m).n g)] ∧ ∀ t, t < (sweptL m).n → g t = ((sweptL m).f t).e) [.code (bodyOf Try.f101)] (St0 Try.f101 2 [.vec 0, .fn 102 [.ptr 1 0]] [(0, .vec 59 2 m.pipes.n fun i => (m.pipes.f i).e), (1, .cells 30 m.e)]) := by
    apply w101_0 m m.pipes (j : Int)
    case c_t => intro h; simp only [beq_iff_eq] at h; omega
    case c_f =>
      intro _
      refine ⟨hx, ?_⟩
      rw [wrap_succ hj (by omega)]
      exact hgo
  obtain ⟨r, b, ⟨rfl, g, rfl, hgt⟩, hg⟩ := hg
  refine (spec_of (Try.func101) (by kernel_rfl) (by kernel_rfl) (by exact Nat.le_of_ble_eq_true (by kernel_rfl)) hg).reb fun k B hB => ?_
  rcases aget_two hB with ⟨rfl, rfl⟩ | ⟨rfl, rfl⟩
  · exact ⟨_, rfl, LeB.refl _⟩
  · exact ⟨_, rfl, LeB.vec rfl hgt⟩

theorem sweep_spec (m : Mac) (hn : m.procs.n ≤ 4096) (hl : m.pipes.n ≤ 4096) : SpecD Try.prog 55 [.agg m.e] (.agg (sweepM m).e) := by
  refine (specE_of (Try.func55) (by kernel_rfl) (by kernel_rfl) (by kernel_rfl) ?_).le
  rcases @idxF_ok (goneQ m) m.pipes.n 0 with ⟨h1, h2⟩ | ⟨j, h1, _, h3, h4, h5⟩
  · refine w55a_0 m ⟨cloneN_spec m.pipes hl, del_none m hn hl h1, ?_⟩
    obtain ⟨k1, k2⟩ := keepF_all (q := goneQ m) (l := m.pipes) (j := m.pipes.n) fun t ht => h2 t (Nat.zero_le _) (by omega)
    exact pipes_le m (sweptL m) k1.symm fun i hi => by show _ = ((keepF (goneQ m) m.pipes m.pipes.n).f i).e; rw [k2 i hi]
  · refine w55b_0 m (sweptL m) ⟨cloneN_spec m.pipes hl, del_some m hn hl h1 (by omega) h4 fun t ht => h5 t (Nat.zero_le _) ht, ?_⟩
    exact pipes_le m (sweptL m) rfl fun i hi => rfl

/-- Swept, a machine that may be is one that may be. -/
theorem sweep_fine {m : Mac} (h : checkF m = 0) : checkF (sweepM m) = 0 := by
  have hf := fine_of h
  have hw := whole_of h
  obtain ⟨k1, k2, k3⟩ := keepF_ok (goneQ m) m.pipes m.pipes.n
  have hle := keepF_le (goneQ m) m.pipes m.pipes.n
  have hr := hw.right
  have h8 := hw.pipes
  have h7 := hf.procs
  have hrise := k3 fun a b hab hb => pipes_rise hr hab hb
  rw [rightK_iff] at hr
  refine checkF_pipes h (sweptL m) m.newpipe (by show (keepF _ _ _).n ≤ 64; omega) hf.newpipe ?_ ?_
  · rw [rightK_iff]
    intro t _ ht
    have ht : t < (keepF (goneQ m) m.pipes m.pipes.n).n := by
      rw [Nat.zero_add] at ht; exact ht
    obtain ⟨i, hi, _, he⟩ := k1 t ht
    obtain ⟨_, r2, r3⟩ := hr i (Nat.zero_le _) (by omega)
    refine ⟨fun h0 => hrise (t - 1) t (by omega) ht, ?_, ?_⟩
    · show 1 ≤ ((keepF (goneQ m) m.pipes m.pipes.n).f t).n ∧ ((keepF (goneQ m) m.pipes m.pipes.n).f t).n ≤ m.newpipe - 1
      rw [he]; exact r2
    · show ((keepF (goneQ m) m.pipes m.pipes.n).f t).s.size ≤ 64
      rw [he]; exact r3
  · intro i hi j hj hfd
    unfold fdF at hfd ⊢
    split at hfd
    · rename_i hk; rw [if_pos hk]; exact hfd
    · rename_i hk
      rw [if_neg hk]
      split at hfd
      · rename_i hk2; rw [if_pos hk2]; exact hfd
      · rename_i hk2
        rw [if_neg hk2]
        split at hfd
        · rename_i hk3
          rw [if_pos hk3]
          simp only [Bool.and_eq_true] at hfd ⊢
          refine ⟨hfd.1, ?_⟩
          obtain ⟨t, _, ht, he⟩ := (pipeK_has m.pipes _ m.pipes.n 0).1 hfd.2
          rw [Nat.zero_add] at ht
          have hq : goneQ m t = false := by
            cases hg : goneQ m t with
            | false => rfl
            | true =>
              exact absurd ⟨j, hj, hk3, he.symm⟩ ((gone_iff m _ (by omega)).1 hg i hi)
          obtain ⟨s, hs, hs2⟩ := k2 t ht hq
          exact (pipeK_has (sweptL m) _ (sweptL m).n 0).2 ⟨s, Nat.zero_le _, by rw [Nat.zero_add]; exact hs, by show ((keepF (goneQ m) m.pipes m.pipes.n).f s).n = _; rw [hs2]; exact he⟩
        · cases hfd
end Go.Hb
