/-
  'hibernaclelaw25.StateFlows' hands back true, whatever the input, and every argument reads behind the call as it did before.
  Conditions: none.
-/
import Derived.Test.YtfcdfbafgmegfaaRows
import Derived.Test.YtfcdfbafgmegfaaFoA
import Derived.Test.YtfcdfbafgmegfaaPrg
import Derived.ProofKit
namespace Go.Proofs.Ytfcdfbafgmegfaa.stateFlows
open Go.Hb Go.RowKit Go.ChangeShapes Go.WideShapes Go.Proofs

theorem plain : Try.f7.params.toList.all (plainT Try.prog 6) = true := by rw [Try.params7]; kernel_rfl
theorem reads : Try.f7.params.toList.all (fun t => Try.prog.readableRec t && Nat.blt t Try.prog.types.size) = true := by rw [Try.params7]; kernel_rfl
theorem results : Try.f7.resultTypes = #[4] := by kernel_rfl

set_option maxRecDepth 100000 in
theorem meets (ss : List V) (hh0 : ArgsOk Try.prog 6 Try.f7.params.toList ss) : SpecD Try.prog 7 ss (.bool true) := by
  rw [Try.params7] at hh0
  obtain ⟨l0, ss0, rfl, h0, hh1⟩ := args_cons hh0
  obtain ⟨n0, f0, rfl, w0, h0⟩ := leaf_seq Try.underlying23 h0
  obtain ⟨q0, h0⟩ := strs_of (d := 4) h0
  have e0 : argV Try.prog 23 [.seq (Try.prog.cellsOf 9) n0 f0] = .seq 1 n0 f0 := by unfold argV isRow; rw [Try.underlying23, cells9]; rfl
  obtain ⟨l1, rfl, h1⟩ := args_one hh1
  obtain ⟨n1, f1, rfl, w1, h1⟩ := leaf_seq Try.underlying51 h1
  obtain ⟨q1, h1⟩ : ∃ q : Nat → Int, ∀ i, i < n1 → f1 i = [.int .u8 (q i)] := pick_fn fun i hi => by
    obtain ⟨x, hx, _⟩ := leaf_int (d := 4) Try.underlying5 (h1 i hi)
    exact ⟨x, hx⟩
  have e1 : argV Try.prog 51 [.seq (Try.prog.cellsOf 5) n1 f1] = .seq 1 n1 f1 := by unfold argV isRow; rw [Try.underlying51, show Try.prog.cellsOf 5 = 1 by kernel_rfl]; rfl
  rw [e0, e1]
  exact (flows_spec ⟨n0, q0⟩ ⟨n1, q1⟩).args (.cons (.seq rfl fun i hi => (h0 i hi).1) <| .cons (.seq rfl fun i hi => h1 i hi) .nil)

set_option maxRecDepth 100000 in
theorem cont (H : Type) (enc : TypeId × Value → H) (W : World) (base : Nat) (args : Array Value) (ds gs : List (DataW H)) (before : List MemPlace)
    (hval : ∀ (j : Nat) t v, Try.f7.params[j]? = some t → args[j]? = some v → Value.okWide Try.prog W .any base t v)
    (hW : DataW.Whole enc Try.prog Try.f7.params.toList Rows.stateFlowsSpec.vars false W args.toList ds gs before)
    (hsz : (DataW.weightsEach Try.prog (Try.f7.params.toList ++ Rows.stateFlowsSpec.plain.varTypes Try.prog) (ds ++ gs)).all (· ≤ reachBytes) = true) :
    Calls Try.prog 7 args W fun e W' => ∃ v, e = .returned v ∧ Rows.stateFlowsSpec.post enc Try.prog Try.f7 false true false false W args v W' := by
  refine law_close (P := Try.prog) (f := 7) (enc := enc) (apart := false) (fresh := true) (handsOn := false) (again := false) (fn := Try.f7) (s := Rows.stateFlowsSpec) (tb := 4) 6 plain rfl results Try.underlying4 (fun ds hl => ?_) prog_laid reads meets W base args ds gs before hval hW hsz
  rw [Try.params7] at hl
  match ds, hl with
  | [d0, d1], _ => rfl

set_option maxRecDepth 100000 in
theorem lifted (os : Os) (started : os.Started) (H : Type) (enc : TypeId × Value → H) :
    ReturnsInHanded {} Try.checked os 7 .any (Rows.stateFlowsSpec.pre6 enc Try.prog Try.f7 Rows.stateFlowsRow.domain false) (Rows.stateFlowsSpec.post enc Try.prog Try.f7 false true false false) := by
  refine returnsInHanded_of_change_sized (C := Try.checked) prog_own started (by kernel_rfl) Try.func7
    (ChangeSpec.witness6 (enc := enc) (C := Try.checked) false ⟨#[], #[.slice none 0 0, .slice none 0 0], []⟩ 8 (by kernel_rfl) (by kernel_rfl) (by kernel_rfl) (by kernel_rfl)) ?_
  intro W base args ds gs before hval hW _ hsz _
  exact cont H enc W base args ds gs before hval hW hsz

set_option maxRecDepth 100000 in
theorem facts : joinedFacts Try.prog 7 Try.f7 Rows.stateFlowsSpec Rows.stateFlowsRow = true := by
  unfold joinedFacts
  rw [prog_laid, prog_maps, prog_keys, prog_heard, prog_enter, prog_lifts, prog_make]
  kernel_rfl

theorem over : Rows.StateFlowsSaid :=
  OpenClaim.holds_of_wide 7 Try.f7 rfl rfl rfl rfl rfl rfl rfl ⟨rfl, rfl, rfl, rfl, rfl⟩ rfl rfl rfl rfl rfl (by kernel_rfl) Try.func7 facts
    (of_decide_eq_true (by kernel_rfl)) (by unfold Func.isWrapper; first | (rw [if_pos (by decide +kernel)]; kernel_rfl) | (rw [if_neg (by decide +kernel)]; exact ⟨rfl, rfl⟩))
    (fun os started H enc _ => lifted os started H enc)
end Go.Proofs.Ytfcdfbafgmegfaa.stateFlows
