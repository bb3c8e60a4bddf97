/-
  THE FUNCTIONS, PART OB: 'StateSpoilt' hands back true.
-/
import Derived.Test.YtfcdfbafgmegfaaFnZ
import Derived.Test.YtfcdfbafgmegfaaLaF
import Derived.Test.YtfcdfbafgmegfaaFnI
import Derived.Test.YtfcdfbafgmegfaaWkR
namespace Go.Hb
open Go.RowKit Go.Proofs
set_option maxRecDepth 100000

/-- Layer 25's 'Great' that says no. -/
theorem great_small (m : Mac) (ok : MacOk m) : ∃ g : Int, (g = 0 ∨ g = 1) ∧ (g = 0 → m.frames.n ≤ 250 ∧ m.procs.n ≤ 12 ∧ m.pipes.n ≤ 250 ∧ m.dirty.n ≤ 250 ∧ m.drive.pending.n ≤ 250) ∧ SpecD Try.prog 43 [.agg m.e] (.int .i64 g) := by
  have a1 := ok.frames
  have a2 := ok.procs
  have a3 := ok.pipes
  have a4 := ok.dirtys
  have a5 := ok.blocks
  have a6 := ok.pendings
  have a7 := ok.inn
  have a8 := ok.init
  have hS : IntKind.i64.wrap (IntKind.i64.wrap (IntKind.i64.wrap (IntKind.i64.wrap (IntKind.i64.wrap (IntKind.i64.wrap ((m.frames.n : Int) + (m.procs.n : Int)) + (m.pipes.n : Int)) + (m.dirty.n : Int)) + (m.drive.blocks.n : Int)) + (m.drive.pending.n : Int)) + IntKind.i64.wrap ((IntKind.i64.wrap ((m.inn.size : Int) + (m.init.size : Int))).tdiv 64))
      = m.frames.n + m.procs.n + m.pipes.n + m.dirty.n + m.drive.blocks.n + m.drive.pending.n + ((m.inn.size : Int) + m.init.size) / 64 := by
    rw [IntWalk.i64_in ((m.inn.size : Int) + (m.init.size : Int)) (by omega), IntWalk.i64_quo _ _ (by omega)]
    rw [IntWalk.i64_in ((m.frames.n : Int) + (m.procs.n : Int)) (by omega)]
    rw [IntWalk.i64_in ((m.frames.n : Int) + (m.procs.n : Int) + (m.pipes.n : Int)) (by omega)]
    rw [IntWalk.i64_in ((m.frames.n : Int) + (m.procs.n : Int) + (m.pipes.n : Int) + (m.dirty.n : Int)) (by omega)]
    rw [IntWalk.i64_in ((m.frames.n : Int) + (m.procs.n : Int) + (m.pipes.n : Int) + (m.dirty.n : Int) + (m.drive.blocks.n : Int)) (by omega)]
    rw [IntWalk.i64_in ((m.frames.n : Int) + (m.procs.n : Int) + (m.pipes.n : Int) + (m.dirty.n : Int) + (m.drive.blocks.n : Int) + (m.drive.pending.n : Int)) (by omega)]
    rw [IntWalk.i64_in _ (by omega)]
  by_cases hb : (m.frames.n : Int) + m.procs.n + m.pipes.n + m.dirty.n + m.drive.blocks.n + m.drive.pending.n + ((m.inn.size : Int) + m.init.size) / 64 > 250 ∨ (m.procs.n : Int) > 12
  · refine ⟨1, .inr rfl, fun h => (by cases h), ?_⟩
    refine (specE_of (Try.func43) (by kernel_rfl) (by kernel_rfl) (by kernel_rfl) ?_).eq
    apply w43_0 m
    case c_t => intro _; exact ⟨by omega, rfl⟩
    case c_ft => intro _ _; exact ⟨by omega, rfl⟩
    case c_ff => intro h h2; rw [hS] at h; simp only [decide_eq_false_iff_not] at h h2; omega
  · obtain ⟨g, hg, h⟩ := great_spec m ok
    exact ⟨g, hg, fun _ => by omega, h⟩

end Go.Hb
