/-
  THE FUNCTIONS, PART X: the own code's Check of a machine tells what the document's does.
-/
import Derived.Test.YtfcdfbafgmegfaaFnV
import Derived.Test.YtfcdfbafgmegfaaLaC
namespace Go.Hb
open Go.RowKit Go.Proofs
set_option maxRecDepth 100000

theorem ncheck_spec (m : Mac) (ok : MacLim m) : SpecD Try.prog 44 [.agg m.e] (.int .i64 (checkF m)) := by
  refine (specE_of (Try.func44) (by kernel_rfl) (by kernel_rfl) (by kernel_rfl) ?_).eq
  have h1 := within_spec m.quantum 1 1000
  have h2 := within_spec m.left 0 m.quantum
  have h3 := within_spec m.next 1 1000000000
  have h4 := within_spec m.newpipe 1 1000000000
  have h5 := within_spec m.frames.n 1 64
  have h6 := hasS_spec m.frames 85 (bigF m) ok.frames fun i _ => big2_spec _
  have h9 := ndisk_spec m ok.dirtys ok.blocks ok.pendings
  apply w44_0 m (decide (1 ≤ m.quantum ∧ m.quantum ≤ 1000)) (decide (0 ≤ m.left ∧ m.left ≤ m.quantum)) (decide (1 ≤ m.next ∧ m.next ≤ 1000000000)) (decide (1 ≤ m.newpipe ∧ m.newpipe ≤ 1000000000)) (decide (1 ≤ (m.frames.n : Int) ∧ (m.frames.n : Int) ≤ 64)) (someK (bigF m) m.frames.n 0) (psK m m.procs.n 0 0 fun _ => none) (rightK m m.pipes.n 0) (diskF m)
  all_goals
    intros
    simp only [decide_eq_true_eq, decide_eq_false_iff_not, Bool.not_eq_true', Bool.not_eq_false'] at *
    first
      | (refine ⟨h1, ?_⟩; rw [checkF, if_pos (by omega)]; done)
      | (refine ⟨h1, h2, ?_⟩; rw [checkF, if_pos (by omega)]; done)
      | (refine ⟨h1, h2, h3, ?_⟩; rw [checkF, if_pos (by omega)]; done)
      | (refine ⟨h1, h2, h3, h4, ?_⟩; rw [checkF, if_pos (by omega)]; done)
      | (refine ⟨h1, h2, h3, h4, h5, ?_⟩; rw [checkF, if_neg (by omega), if_pos (by omega)]; done)
      | skip
  all_goals
    have e0 : checkF m = chkFrames m m.frames.n 0 := by rw [checkF, if_neg (by omega), if_neg (by omega)]
    rw [chkFrames_some, chkProcs_ps, chkPipes_right] at e0
    have h7 := procs_spec m ok (by omega)
    have h8 := right_spec m ok.pipes (by omega)
    first
      | (refine ⟨h1, h2, h3, h4, h5, h6, ?_⟩; rw [e0, if_pos (by assumption)]; done)
      | (refine ⟨h1, h2, h3, h4, h5, h6, ?_⟩; rw [e0, if_neg (by simp_all), if_pos (by omega)]; done)
      | (refine ⟨h1, h2, h3, h4, h5, h6, h7, ?_⟩; rw [e0, if_neg (by simp_all), if_neg (by omega), if_neg (by simp_all)]; done)
      | (refine ⟨h1, h2, h3, h4, h5, h6, h7, ?_⟩; rw [e0, if_neg (by simp_all), if_neg (by omega), if_pos (by assumption), if_pos (by omega)]; done)
      | (refine ⟨h1, h2, h3, h4, h5, h6, h7, h8, ?_⟩; rw [e0, if_neg (by simp_all), if_neg (by omega), if_pos (by assumption), if_neg (by omega), if_neg (by simp_all)]; done)
      | (refine ⟨h1, h2, h3, h4, h5, h6, h7, h8, ?_⟩; rw [e0, if_neg (by simp_all), if_neg (by omega), if_pos (by assumption), if_neg (by omega), if_pos (by assumption), chkEnd, if_pos (by omega)]; done)
      | (refine ⟨h1, h2, h3, h4, h5, h6, h7, h8, h9, ?_⟩; rw [e0, if_neg (by simp_all), if_neg (by omega), if_pos (by assumption), if_neg (by omega), if_pos (by assumption), chkEnd, if_neg (by omega)]; done)
end Go.Hb
