/-
  'hibernaclelaw27.SchedStays' hands back true, whatever the input, and every argument reads behind the call as it did before.
  Conditions: none.
-/
import Derived.Test.YtfcdfbafgmegfaaRows
import Derived.Test.YtfcdfbafgmegfaaFnY
import Derived.Test.YtfcdfbafgmegfaaPrg
import Derived.ProofKit
namespace Go.Proofs.Ytfcdfbafgmegfaa.schedStays
open Go.Hb Go.RowKit Go.ChangeShapes Go.WideShapes Go.Proofs

theorem plain : Try.f10.params.toList.all (plainT Try.prog 6) = true := by rw [Try.params10]; kernel_rfl
theorem reads : Try.f10.params.toList.all (fun t => Try.prog.readableRec t && Nat.blt t Try.prog.types.size) = true := by rw [Try.params10]; kernel_rfl
theorem results : Try.f10.resultTypes = #[4] := by kernel_rfl

set_option maxRecDepth 100000 in
theorem meets (ss : List V) (hh0 : ArgsOk Try.prog 6 Try.f10.params.toList ss) : SpecD Try.prog 10 ss (.bool true) := by
  rw [Try.params10] at hh0
  obtain ⟨l0, rfl, h0⟩ := args_one hh0
  obtain ⟨m0, k0, ok0⟩ := shape_mac h0
  have e0 : argV Try.prog 30 l0 = .agg l0 := by unfold argV isRow; rw [Try.underlying30]; rfl
  rw [e0]
  exact (stays_spec m0 ok0).args (.cons (.agg k0) .nil)

set_option maxRecDepth 100000 in
theorem cont (H : Type) (enc : TypeId × Value → H) (W : World) (base : Nat) (args : Array Value) (ds gs : List (DataW H)) (before : List MemPlace)
    (hval : ∀ (j : Nat) t v, Try.f10.params[j]? = some t → args[j]? = some v → Value.okWide Try.prog W .any base t v)
    (hW : DataW.Whole enc Try.prog Try.f10.params.toList Rows.schedStaysSpec.vars false W args.toList ds gs before)
    (hsz : (DataW.weightsEach Try.prog (Try.f10.params.toList ++ Rows.schedStaysSpec.plain.varTypes Try.prog) (ds ++ gs)).all (· ≤ reachBytes) = true) :
    Calls Try.prog 10 args W fun e W' => ∃ v, e = .returned v ∧ Rows.schedStaysSpec.post enc Try.prog Try.f10 false true false false W args v W' := by
  refine law_close (P := Try.prog) (f := 10) (enc := enc) (apart := false) (fresh := true) (handsOn := false) (again := false) (fn := Try.f10) (s := Rows.schedStaysSpec) (tb := 4) 6 plain rfl results Try.underlying4 (fun ds hl => ?_) prog_laid reads meets W base args ds gs before hval hW hsz
  rw [Try.params10] at hl
  match ds, hl with
  | [d0], _ => rfl

set_option maxRecDepth 100000 in
theorem lifted (os : Os) (started : os.Started) (H : Type) (enc : TypeId × Value → H) :
    ReturnsInHanded {} Try.checked os 10 .any (Rows.schedStaysSpec.pre6 enc Try.prog Try.f10 Rows.schedStaysRow.domain false) (Rows.schedStaysSpec.post enc Try.prog Try.f10 false true false false) := by
  refine returnsInHanded_of_change_sized (C := Try.checked) prog_own started (by kernel_rfl) Try.func10
    (ChangeSpec.witness6 (enc := enc) (C := Try.checked) false ⟨#[], #[noM], []⟩ 8 (by kernel_rfl) (by kernel_rfl) (by kernel_rfl) (by kernel_rfl)) ?_
  intro W base args ds gs before hval hW _ hsz _
  exact cont H enc W base args ds gs before hval hW hsz

set_option maxRecDepth 100000 in
theorem facts : joinedFacts Try.prog 10 Try.f10 Rows.schedStaysSpec Rows.schedStaysRow = true := by
  unfold joinedFacts
  rw [prog_laid, prog_maps, prog_keys, prog_heard, prog_enter, prog_lifts, prog_make]
  kernel_rfl

theorem over : Rows.SchedStaysSaid :=
  OpenClaim.holds_of_wide 10 Try.f10 rfl rfl rfl rfl rfl rfl rfl ⟨rfl, rfl, rfl, rfl, rfl⟩ rfl rfl rfl rfl rfl (by kernel_rfl) Try.func10 facts
    (of_decide_eq_true (by kernel_rfl)) (by unfold Func.isWrapper; first | (rw [if_pos (by decide +kernel)]; kernel_rfl) | (rw [if_neg (by decide +kernel)]; exact ⟨rfl, rfl⟩))
    (fun os started H enc _ => lifted os started H enc)
end Go.Proofs.Ytfcdfbafgmegfaa.schedStays
