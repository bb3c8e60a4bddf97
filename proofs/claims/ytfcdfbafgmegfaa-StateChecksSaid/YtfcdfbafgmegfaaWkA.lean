/- Printed by wip/tools/Walk.lean out of wip/walks/A.lean: each stretch of code, with a continuation per path. -/
import Derived.Test.YtfcdfbafgmegfaaDtA
import Derived.Test.YtfcdfbafgmegfaaChecked
namespace Go.Hb
open Go.RowKit Go.Proofs
set_option maxRecDepth 100000
set_option linter.unusedVariables false
theorem w83_0 (l : Sq Prc) (g : Nat) (caps : List V) {Q : V → Prop}
    (c_ : GoToE Try.prog 83 Q (headOf Try.f83 0) ⟨19, 1000, [(0, prcs l), (1, .fn (g) [.rfp (caps) 0]), (7, .int .i64 ((↑l.n : Int))), (8, .int .i64 ((0 : Int)))], []⟩) :
    GoToE Try.prog 83 Q [.code (bodyOf Try.f83)] (St0 Try.f83 0 [prcs l, .fn g [.rfp caps 0]] []) :=
  GoToE.segAt (by kernel_rfl) (pre := []) (sc := []) (stop := []) (ps := []) (nx := 1000) (fs := [0, 1, 7, 8]) (R := []) (obs := []) (by kernel_rfl) trivial c_

theorem w83_1 (l : Sq Prc) (g : Nat) (caps : List V) (i : Int) (b : Bool) {Q : V → Prop}
    (c_tt : (decide (i < (↑l.n : Int))) = true → (b) = true → (((0 : Int) ≤ i ∧ i < (↑l.n : Int))) ∧ (SpecD Try.prog (g) [.agg (l.f i.toNat).e, .rfp (caps) 0] (.bool (b))) ∧ Q (.int .i64 (i)))
    (c_tf : (decide (i < (↑l.n : Int))) = true → (b) = false → (((0 : Int) ≤ i ∧ i < (↑l.n : Int))) ∧ (SpecD Try.prog (g) [.agg (l.f i.toNat).e, .rfp (caps) 0] (.bool (b))) ∧ GoToE Try.prog 83 Q (headOf Try.f83 0) ⟨19, 1000, [(0, prcs l), (1, .fn (g) [.rfp (caps) 0]), (7, .int .i64 ((↑l.n : Int))), (8, .int .i64 (IntKind.i64.wrap (i + (1 : Int))))], []⟩)
    (c_f : (decide (i < (↑l.n : Int))) = false → Q (.int .i64 ((-1 : Int)))) :
    GoToE Try.prog 83 Q (headOf Try.f83 0) ⟨19, 1000, [(0, prcs l), (1, .fn (g) [.rfp (caps) 0]), (7, .int .i64 ((↑l.n : Int))), (8, .int .i64 i)], []⟩ :=
  (Bool.eq_false_or_eq_true (decide (i < (↑l.n : Int)))).elim (fun d0 => (Bool.eq_false_or_eq_true (b)).elim (fun d1 => GoToE.segEnd (by kernel_rfl) (Try.func83) (pre := []) (sc := [(4, [(5, .vdec (.bool b) true)]), (2, [(0, .dec true)])]) (ps := []) (obs := [decide (i < (↑l.n : Int)) = true, ((0 : Int) ≤ i ∧ i < (↑l.n : Int)), b = true, SpecD Try.prog (g) [.agg (l.f i.toNat).e, .rfp (caps) 0] (.bool (b))]) (by kernel_rfl) ⟨d0, (c_tt d0 d1).1, d1, (c_tt d0 d1).2.1, trivial⟩ (c_tt d0 d1).2.2) (fun d1 => GoToE.segAt (by kernel_rfl) (pre := []) (sc := [(4, [(5, .vdec (.bool b) false)]), (2, [(0, .dec true)])]) (stop := []) (ps := []) (nx := 1000) (fs := [0, 1, 7, 8]) (R := []) (obs := [decide (i < (↑l.n : Int)) = true, ((0 : Int) ≤ i ∧ i < (↑l.n : Int)), b = false, SpecD Try.prog (g) [.agg (l.f i.toNat).e, .rfp (caps) 0] (.bool (b))]) (by kernel_rfl) ⟨d0, (c_tf d0 d1).1, d1, (c_tf d0 d1).2.1, trivial⟩ (c_tf d0 d1).2.2)) (fun d0 => GoToE.segEnd (by kernel_rfl) (Try.func83) (pre := []) (sc := [(4, [(5, .val (.bool b))]), (2, [(0, .dec false)])]) (ps := []) (obs := [decide (i < (↑l.n : Int)) = false]) (by kernel_rfl) ⟨d0, trivial⟩ (c_f d0))

end Go.Hb
