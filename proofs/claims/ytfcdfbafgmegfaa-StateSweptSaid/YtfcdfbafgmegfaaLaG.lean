/- Printed by wip/tools/Walk.lean out of wip/walks/G2.lean: each stretch of code, with a continuation per path. -/
import Derived.Test.YtfcdfbafgmegfaaFnG
import Derived.Test.YtfcdfbafgmegfaaDtB
import Derived.Test.YtfcdfbafgmegfaaChecked
import Derived.Test.YtfcdfbafgmegfaaFnJ
import Derived.Test.YtfcdfbafgmegfaaSpR
import Derived.Test.YtfcdfbafgmegfaaLaC
import Derived.Test.YtfcdfbafgmegfaaFnU
import Derived.Test.YtfcdfbafgmegfaaFnR
namespace Go.Hb
open Go.RowKit Go.Proofs
set_option maxRecDepth 100000
set_option linter.unusedVariables false
end Go.Hb
/-
  THE FUNCTIONS, PART K: layer 27's example; who goes on of any machine is the document's.
-/
namespace Go.Hb
open Go.RowKit Go.Proofs

set_option maxRecDepth 100000
/-- Layer 25's small machine. -/
def zero128 : ByteArray := ⟨(Lib.repeatL [0] 128).toArray⟩
def bareM : Mac := { clock := 0, quantum := 3, cur := 0, left := 0, frames := ⟨4, fun _ => zero128⟩, procs := ⟨0, fun _ => rdy 0⟩, next := 1, init := ⟨#[]⟩, pipes := ⟨0, fun _ => num0⟩, newpipe := 1, inn := ⟨#[]⟩, endd := false, told := 0, drive := drvOf (fmtB 6), dirty := ⟨0, fun _ => num0⟩ }

theorem bare_spec : SpecD Try.prog 31 [] (.agg bareM.e) := by
  refine (specE_of (Try.func31) (by kernel_rfl) (by kernel_rfl) (by kernel_rfl) ?_).le
  refine w31_0 (fmtB 6) (drvOf (fmtB 6)) zero128 ⟨fmt17_spec, fmt16_spec (fmtB 6) (by decide) (by decide) (fun j _ => fmtB_size 6 (by omega) j), repeat_spec ⟨#[0]⟩ 128 (by omega) (by omega) (by decide) (by decide), ?_⟩
  refine .agg (.cons (.refl _) <| .cons (.refl _) <| .cons (.refl _) <| .cons (.refl _) <| .cons (.seq rfl fun i hi => ?_) <| .cons (Le.nil 96 _) <| .cons (.refl _) <| .cons (.refl _) <| .cons (Le.nil 2 _) <| .cons (.refl _) <| .cons (.refl _) <|
    .cons (Le.tt false) <| .cons (.refl _) <| .cons (.refl _) <| .cons (.refl _) <| .cons (.refl _) <| .cons (Le.nil 2 _) .nil)
  have : i = 0 ∨ i = 1 ∨ i = 2 ∨ i = 3 := by omega
  rcases this with rfl | rfl | rfl | rfl <;> rfl

def two : Sq Prc := ⟨2, fun i => rdy (i + 1)⟩
end Go.Hb

/-
  PLAIN FACTS: layer 25's small machine with a pipe may be.
-/
namespace Go.Hb
open Go.RowKit Go.Proofs
set_option maxRecDepth 100000

theorem drvK1_all (d : Drv) : ∀ k i, (∀ t, i ≤ t → t < i + k → (d.blocks.f t).size = 128) → drvK1 d k i = drvK2 d d.pending.n 0
  | 0, _, _ => rfl
  | k + 1, i, h => by
    simp only [drvK1]
    rw [if_neg (by have := h i (by omega) (by omega); omega)]
    exact drvK1_all d k (i + 1) fun t h1 h2 => h t (by omega) (by omega)
theorem ofSizes_all (v : Sq ByteArray) : ∀ k i, (∀ t, i ≤ t → t < i + k → (v.f t).size = 128) → ofSizes v k i = ofHead v
  | 0, _, _ => rfl
  | k + 1, i, h => by
    simp only [ofSizes]
    rw [if_neg (by have := h i (by omega) (by omega); omega)]
    exact ofSizes_all v k (i + 1) fun t h1 h2 => h t (by omega) (by omega)

theorem bare_drv : drvF (drvOf (fmtB 6)) = 0 := by
  unfold drvF
  rw [if_neg (by decide), drvK1_all _ _ _ fun t _ _ => ?_]
  · rfl
  · show (if t < 33 then zer 128 else (fmtB 6).f (t - 33)).size = 128
    split
    · exact size_zer 128
    · exact fmtB_size 6 (by omega) _
theorem bare_home : homeF (drvOf (fmtB 6)) = fmtB 6 := by
  have hb : badF (drvOf (fmtB 6)) = 0 := by
    unfold badF
    rw [if_neg (by rw [bare_drv]; simp), if_neg (by decide)]
  unfold homeF
  rw [if_neg (by rw [hb]; simp)]
  have hf : (fun i => blockF (drvOf (fmtB 6)) (33 + i)) = vol24 6 := by
    funext i
    show (if 33 + i < 33 then zer 128 else vol24 6 (33 + i - 33)) = vol24 6 i
    rw [if_neg (by omega), Nat.add_sub_cancel_left]
  rw [hf]; rfl
theorem bare_num : ofNum (fmtB 6) = 6 := by kernel_rfl
theorem turns6 : turns 6 = ⟨(63 :: List.replicate 127 (0 : UInt8)).toArray⟩ := by kernel_rfl
theorem bare_bits : nrK1 (turns 6) geo24 6 0 = true := by rw [turns6]; kernel_rfl
theorem bare_of : (ofF (fmtB 6)).2 = 0 := by
  unfold ofF
  rw [if_neg (by decide), ofSizes_all _ _ _ fun t _ _ => fmtB_size 6 (by omega) t]
  unfold ofHead
  have hp : planE (fmtB 6).n (ofNum (fmtB 6)) = 0 := by rw [bare_num]; rfl
  have hg : planG (fmtB 6).n (ofNum (fmtB 6)) = geo24 := by rw [bare_num]; rfl
  rw [if_neg (by rw [hp]; simp), hg, if_neg (by show ¬ strEq (headF geo24) (headF geo24) = false; rw [strEq_self]; simp), ofBits_right _ _ (by decide) (by decide),
    if_pos (show nrK1 ((fmtB 6).f 2) geo24 geo24.data.toNat 0 = true from bare_bits)]

/-- The example's machine, behind a pipe's opening. -/
def aliveM (s : ByteArray) : Mac := { bareM with pipes := ⟨1, fun _ => ⟨1, s⟩⟩, newpipe := 2 }
theorem alive_disk (s : ByteArray) : diskF (aliveM s) = 0 := by
  have h1 : drvF (aliveM s).drive = 0 := bare_drv
  have h2 : homeF (aliveM s).drive = fmtB 6 := bare_home
  have h3 : volF (aliveM s) = fmtB 6 := bare_home
  unfold diskF
  rw [h1, h2, if_neg (by simp), if_neg (show ¬ ((fmtB 6).n = 0) from by decide), if_neg (fun h : (aliveM s).dirty.n > 32 => by have h : (0 : Nat) > 32 := h; omega)]
  show (ofF (volF (aliveM s))).2 = 0
  rw [h3]; exact bare_of
theorem zero128_size : zero128.size = 128 := by kernel_rfl
theorem bigF_none (m : Mac) : ∀ k i, (∀ t, i ≤ t → t < i + k → (m.frames.f t).size = 128) → someK (bigF m) k i = false
  | 0, _, _ => rfl
  | k + 1, i, h => by
    show (bigF m i || someK (bigF m) k (i + 1)) = false
    rw [bigF_none m k (i + 1) fun t h1 h2 => h t (by omega) (by omega)]
    have := h i (by omega) (by omega)
    simp [bigF, this]
theorem alive_check (s : ByteArray) (hs : s.size ≤ 64) : checkF (aliveM s) = 0 := by
  have e : checkF (aliveM s) = chkFrames (aliveM s) 4 0 := by
    unfold checkF
    rw [if_neg (by show ¬ ((3 : Int) < 1 ∨ _); simp [aliveM, bareM]), if_neg (by simp [aliveM, bareM])]
    rfl
  have e2 : (if (aliveM s).procs.n > 8 then (6 : Int) else chkProcs (aliveM s) (aliveM s).procs.n 0) = chkPipes (aliveM s) 1 0 := rfl
  have hr : rightK (aliveM s) 1 0 = true := by
    simp only [rightK]
    rw [if_neg]
    rintro (⟨h, _⟩ | h | h)
    · omega
    · exact h ⟨by show (1 : Int) ≤ 1; omega, by show (1 : Int) ≤ 2 - 1; omega⟩
    · have h : s.size > 64 := h
      omega
  have e4 : chkEnd (aliveM s) = 0 := by
    unfold chkEnd
    rw [if_neg]
    · exact alive_disk s
    · rintro (h | h)
      · have h : (0 : Nat) > 65536 := h
        omega
      · have h : (0 : Nat) > 128 := h
        omega
  rw [e, chkFrames_some, bigF_none _ _ _ fun t _ _ => zero128_size, if_neg (by simp), e2, chkPipes_right, if_pos hr, e4]

/-- No machine. -/
def noMac : Mac := { clock := 0, quantum := 0, cur := 0, left := 0, frames := ⟨0, fun _ => ⟨#[]⟩⟩, procs := ⟨0, fun _ => rdy 0⟩, next := 0, init := ⟨#[]⟩, pipes := ⟨0, fun _ => num0⟩, newpipe := 0, inn := ⟨#[]⟩, endd := false, told := 0, drive := ⟨⟨0, fun _ => ⟨#[]⟩⟩, ⟨0, fun _ => num0⟩, 0⟩, dirty := ⟨0, fun _ => num0⟩ }
theorem noMac_check : checkF noMac = 2 := rfl
end Go.Hb

/-
  PLAIN FACTS on pipes: opening one, bytes in, bytes out.
-/
namespace Go.Hb
open Go.RowKit Go.Proofs

theorem cut_size (b : ByteArray) (i j : Nat) (h : j ≤ b.size) : (b.extract i j).size = j - i := by rw [ByteArray.size_extract]; omega

def openM (m : Mac) : Mac := { m with pipes := ⟨m.pipes.n + 1, fun j => if j < m.pipes.n then m.pipes.f j else ⟨m.newpipe, ⟨#[]⟩⟩⟩, newpipe := IntKind.i64.wrap (m.newpipe + 1) }
def withM (m : Mac) (i : Nat) (s : ByteArray) : Mac := { m with pipes := ⟨m.pipes.n, fun j => if j = i then ⟨(m.pipes.f i).n, s⟩ else m.pipes.f j⟩ }
def roomN (was s : ByteArray) : Nat := min s.size (64 - was.size)
def takeN (was : ByteArray) (n : Int) : Nat := min n.toNat was.size
def putI (m : Mac) (ix : Int) (s : ByteArray) : Mac × Nat :=
  if ix < 0 then (m, 0) else (withM m ix.toNat ((m.pipes.f ix.toNat).s ++ s.extract 0 (roomN (m.pipes.f ix.toNat).s s)), roomN (m.pipes.f ix.toNat).s s)
def putM (m : Mac) (id : Int) (s : ByteArray) : Mac × Nat := putI m (pipeI m id) s
def takeI (m : Mac) (ix : Int) (n : Int) : Mac × ByteArray :=
  if ix < 0 then (m, ⟨#[]⟩) else (withM m ix.toNat ((m.pipes.f ix.toNat).s.extract (takeN (m.pipes.f ix.toNat).s n) (m.pipes.f ix.toNat).s.size), (m.pipes.f ix.toNat).s.extract 0 (takeN (m.pipes.f ix.toNat).s n))
def takeM (m : Mac) (id n : Int) : Mac × ByteArray := takeI m (pipeI m id) n

theorem roomN_max (was s : ByteArray) (h : was.size ≤ 140737488355328) :
    (if (if (0 : Int) > IntKind.i64.wrap ((64 : Int) - (was.size : Int)) then (0 : Int) else IntKind.i64.wrap ((64 : Int) - (was.size : Int))) < (s.size : Int) then (if (0 : Int) > IntKind.i64.wrap ((64 : Int) - (was.size : Int)) then (0 : Int) else IntKind.i64.wrap ((64 : Int) - (was.size : Int))) else (s.size : Int)) = (roomN was s : Int) := by
  rw [IntWalk.i64_in _ (by omega)]
  unfold roomN
  split <;> split <;> omega
end Go.Hb
