/-
  THE PLAIN LAW of 'StateSpoilt': what a machine that may be must be; one thing wrong, and it may not be.
-/
import Derived.Test.YtfcdfbafgmegfaaLaC
import Derived.Test.YtfcdfbafgmegfaaDtA
import Derived.Test.YtfcdfbafgmegfaaChecked
import Derived.Test.YtfcdfbafgmegfaaFnZ
import Derived.Test.YtfcdfbafgmegfaaFnI
namespace Go.Hb
open Go.RowKit Go.Proofs

/-- What Check asks, point by point. -/
structure Whole (m : Mac) : Prop where
  fine : Fine m
  pipes : m.pipes.n ≤ 64
  right : rightK m m.pipes.n 0 = true
  inn : m.inn.size ≤ 65536
  init : m.init.size ≤ 128
  disk : diskF m = 0
theorem whole_of {m : Mac} (h : checkF m = 0) : Whole m := by
  have hf := fine_of h
  have h1 := hf.quantum
  have h2 := hf.next
  have h3 := hf.newpipe
  have h4 := hf.frames
  have h5 := hf.left
  have h6 := hf.cur
  unfold checkF at h
  rw [if_neg (by omega), if_neg (by omega), chkFrames_some] at h
  split at h
  · cases h
  · have h7 := hf.procs
    rw [if_neg (by omega), chkProcs_ps] at h
    split at h
    · split at h
      · cases h
      · rw [chkPipes_right] at h
        split at h
        · rename_i hr
          unfold chkEnd at h
          split at h
          · cases h
          · exact ⟨hf, by omega, hr, by omega, by omega, h⟩
        · cases h
    · cases h

/-- A row with one more at its end. -/
def Sq.snoc {α : Type} (l : Sq α) (x : α) : Sq α := ⟨l.n + 1, fun j => if j < l.n then l.f j else x⟩
end Go.Hb
/- Printed by wip/tools/Walk.lean out of wip/walks/R.lean: each stretch of code, with a continuation per path. -/
namespace Go.Hb
open Go.RowKit Go.Proofs
set_option maxRecDepth 100000
set_option linter.unusedVariables false
end Go.Hb

/-
  THE FUNCTIONS, PART OB: 'StateSpoilt' hands back true.
-/
namespace Go.Hb
open Go.RowKit Go.Proofs
set_option maxRecDepth 100000

/-- Layer 25's 'Great' that says no. -/
theorem great_small (m : Mac) (ok : MacOk m) : ∃ g : Int, (g = 0 ∨ g = 1) ∧ (g = 0 → m.frames.n ≤ 250 ∧ m.procs.n ≤ 12 ∧ m.pipes.n ≤ 250 ∧ m.dirty.n ≤ 250 ∧ m.drive.pending.n ≤ 250) ∧ SpecD Try.prog 43 [.agg m.e] (.int .i64 g) := by
  have a1 := ok.frames
  have a2 := ok.procs
  have a3 := ok.pipes
  have a4 := ok.dirtys
  have a5 := ok.blocks
  have a6 := ok.pendings
  have a7 := ok.inn
  have a8 := ok.init
  have hS : IntKind.i64.wrap (IntKind.i64.wrap (IntKind.i64.wrap (IntKind.i64.wrap (IntKind.i64.wrap (IntKind.i64.wrap ((m.frames.n : Int) + (m.procs.n : Int)) + (m.pipes.n : Int)) + (m.dirty.n : Int)) + (m.drive.blocks.n : Int)) + (m.drive.pending.n : Int)) + IntKind.i64.wrap ((IntKind.i64.wrap ((m.inn.size : Int) + (m.init.size : Int))).tdiv 64))
      = m.frames.n + m.procs.n + m.pipes.n + m.dirty.n + m.drive.blocks.n + m.drive.pending.n + ((m.inn.size : Int) + m.init.size) / 64 := by
    rw [IntWalk.i64_in ((m.inn.size : Int) + (m.init.size : Int)) (by omega), IntWalk.i64_quo _ _ (by omega)]
    rw [IntWalk.i64_in ((m.frames.n : Int) + (m.procs.n : Int)) (by omega)]
    rw [IntWalk.i64_in ((m.frames.n : Int) + (m.procs.n : Int) + (m.pipes.n : Int)) (by omega)]
    rw [IntWalk.i64_in ((m.frames.n : Int) + (m.procs.n : Int) + (m.pipes.n : Int) + (m.dirty.n : Int)) (by omega)]
    rw [IntWalk.i64_in ((m.frames.n : Int) + (m.procs.n : Int) + (m.pipes.n : Int) + (m.dirty.n : Int) + (m.drive.blocks.n : Int)) (by omega)]
    rw [IntWalk.i64_in ((m.frames.n : Int) + (m.procs.n : Int) + (m.pipes.n : Int) + (m.dirty.n : Int) + (m.drive.blocks.n : Int) + (m.drive.pending.n : Int)) (by omega)]
    rw [IntWalk.i64_in _ (by omega)]
  by_cases hb : (m.frames.n : Int) + m.procs.n + m.pipes.n + m.dirty.n + m.drive.blocks.n + m.drive.pending.n + ((m.inn.size : Int) + m.init.size) / 64 > 250 ∨ (m.procs.n : Int) > 12
  · refine ⟨1, .inr rfl, fun h => (by cases h), ?_⟩
    refine (specE_of (Try.func43) (by kernel_rfl) (by kernel_rfl) (by kernel_rfl) ?_).eq
    apply w43_0 m
    case c_t => intro _; exact ⟨by omega, rfl⟩
    case c_ft => intro _ _; exact ⟨by omega, rfl⟩
    case c_ff => intro h h2; rw [hS] at h; simp only [decide_eq_false_iff_not] at h h2; omega
  · obtain ⟨g, hg, h⟩ := great_spec m ok
    exact ⟨g, hg, fun _ => by omega, h⟩

end Go.Hb
