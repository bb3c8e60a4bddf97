/-
  PLAIN FACTS: layer 25's small machine with a pipe may be.
-/
import Derived.Test.YtfcdfbafgmegfaaLaC
import Derived.Test.YtfcdfbafgmegfaaFnK
import Derived.Test.YtfcdfbafgmegfaaFnU
namespace Go.Hb
open Go.RowKit Go.Proofs
set_option maxRecDepth 100000

theorem drvK1_all (d : Drv) : ∀ k i, (∀ t, i ≤ t → t < i + k → (d.blocks.f t).size = 128) → drvK1 d k i = drvK2 d d.pending.n 0
  | 0, _, _ => rfl
  | k + 1, i, h => by
    simp only [drvK1]
    rw [if_neg (by have := h i (by omega) (by omega); omega)]
    exact drvK1_all d k (i + 1) fun t h1 h2 => h t (by omega) (by omega)
theorem ofSizes_all (v : Sq ByteArray) : ∀ k i, (∀ t, i ≤ t → t < i + k → (v.f t).size = 128) → ofSizes v k i = ofHead v
  | 0, _, _ => rfl
  | k + 1, i, h => by
    simp only [ofSizes]
    rw [if_neg (by have := h i (by omega) (by omega); omega)]
    exact ofSizes_all v k (i + 1) fun t h1 h2 => h t (by omega) (by omega)

theorem bare_drv : drvF (drvOf (fmtB 6)) = 0 := by
  unfold drvF
  rw [if_neg (by decide), drvK1_all _ _ _ fun t _ _ => ?_]
  · rfl
  · show (if t < 33 then zer 128 else (fmtB 6).f (t - 33)).size = 128
    split
    · exact size_zer 128
    · exact fmtB_size 6 (by omega) _
theorem bare_home : homeF (drvOf (fmtB 6)) = fmtB 6 := by
  have hb : badF (drvOf (fmtB 6)) = 0 := by
    unfold badF
    rw [if_neg (by rw [bare_drv]; simp), if_neg (by decide)]
  unfold homeF
  rw [if_neg (by rw [hb]; simp)]
  have hf : (fun i => blockF (drvOf (fmtB 6)) (33 + i)) = vol24 6 := by
    funext i
    show (if 33 + i < 33 then zer 128 else vol24 6 (33 + i - 33)) = vol24 6 i
    rw [if_neg (by omega), Nat.add_sub_cancel_left]
  rw [hf]; rfl
theorem bare_num : ofNum (fmtB 6) = 6 := by kernel_rfl
theorem turns6 : turns 6 = ⟨(63 :: List.replicate 127 (0 : UInt8)).toArray⟩ := by kernel_rfl
theorem bare_bits : nrK1 (turns 6) geo24 6 0 = true := by rw [turns6]; kernel_rfl
theorem bare_of : (ofF (fmtB 6)).2 = 0 := by
  unfold ofF
  rw [if_neg (by decide), ofSizes_all _ _ _ fun t _ _ => fmtB_size 6 (by omega) t]
  unfold ofHead
  have hp : planE (fmtB 6).n (ofNum (fmtB 6)) = 0 := by rw [bare_num]; rfl
  have hg : planG (fmtB 6).n (ofNum (fmtB 6)) = geo24 := by rw [bare_num]; rfl
  rw [if_neg (by rw [hp]; simp), hg, if_neg (by show ¬ strEq (headF geo24) (headF geo24) = false; rw [strEq_self]; simp), ofBits_right _ _ (by decide) (by decide),
    if_pos (show nrK1 ((fmtB 6).f 2) geo24 geo24.data.toNat 0 = true from bare_bits)]

/-- The example's machine, behind a pipe's opening. -/
def aliveM (s : ByteArray) : Mac := { bareM with pipes := ⟨1, fun _ => ⟨1, s⟩⟩, newpipe := 2 }
theorem alive_disk (s : ByteArray) : diskF (aliveM s) = 0 := by
  have h1 : drvF (aliveM s).drive = 0 := bare_drv
  have h2 : homeF (aliveM s).drive = fmtB 6 := bare_home
  have h3 : volF (aliveM s) = fmtB 6 := bare_home
  unfold diskF
  rw [h1, h2, if_neg (by simp), if_neg (show ¬ ((fmtB 6).n = 0) from by decide), if_neg (fun h : (aliveM s).dirty.n > 32 => by have h : (0 : Nat) > 32 := h; omega)]
  show (ofF (volF (aliveM s))).2 = 0
  rw [h3]; exact bare_of
theorem zero128_size : zero128.size = 128 := by kernel_rfl
theorem bigF_none (m : Mac) : ∀ k i, (∀ t, i ≤ t → t < i + k → (m.frames.f t).size = 128) → someK (bigF m) k i = false
  | 0, _, _ => rfl
  | k + 1, i, h => by
    show (bigF m i || someK (bigF m) k (i + 1)) = false
    rw [bigF_none m k (i + 1) fun t h1 h2 => h t (by omega) (by omega)]
    have := h i (by omega) (by omega)
    simp [bigF, this]
theorem alive_check (s : ByteArray) (hs : s.size ≤ 64) : checkF (aliveM s) = 0 := by
  have e : checkF (aliveM s) = chkFrames (aliveM s) 4 0 := by
    unfold checkF
    rw [if_neg (by show ¬ ((3 : Int) < 1 ∨ _); simp [aliveM, bareM]), if_neg (by simp [aliveM, bareM])]
    rfl
  have e2 : (if (aliveM s).procs.n > 8 then (6 : Int) else chkProcs (aliveM s) (aliveM s).procs.n 0) = chkPipes (aliveM s) 1 0 := rfl
  have hr : rightK (aliveM s) 1 0 = true := by
    simp only [rightK]
    rw [if_neg]
    rintro (⟨h, _⟩ | h | h)
    · omega
    · exact h ⟨by show (1 : Int) ≤ 1; omega, by show (1 : Int) ≤ 2 - 1; omega⟩
    · have h : s.size > 64 := h
      omega
  have e4 : chkEnd (aliveM s) = 0 := by
    unfold chkEnd
    rw [if_neg]
    · exact alive_disk s
    · rintro (h | h)
      · have h : (0 : Nat) > 65536 := h
        omega
      · have h : (0 : Nat) > 128 := h
        omega
  rw [e, chkFrames_some, bigF_none _ _ _ fun t _ _ => zero128_size, if_neg (by simp), e2, chkPipes_right, if_pos hr, e4]

/-- No machine. -/
def noMac : Mac := { clock := 0, quantum := 0, cur := 0, left := 0, frames := ⟨0, fun _ => ⟨#[]⟩⟩, procs := ⟨0, fun _ => rdy 0⟩, next := 0, init := ⟨#[]⟩, pipes := ⟨0, fun _ => num0⟩, newpipe := 0, inn := ⟨#[]⟩, endd := false, told := 0, drive := ⟨⟨0, fun _ => ⟨#[]⟩⟩, ⟨0, fun _ => num0⟩, 0⟩, dirty := ⟨0, fun _ => num0⟩ }
theorem noMac_check : checkF noMac = 2 := rfl
end Go.Hb
