/-
  'hibernaclelaw25.StateSwept' hands back true, whatever the input, and every argument reads behind the call as it did before.
  Conditions: none.
-/
import Derived.Test.YtfcdfbafgmegfaaRows
import Derived.Test.YtfcdfbafgmegfaaFoF
import Derived.Test.YtfcdfbafgmegfaaPrg
import Derived.ProofKit
namespace Go.Proofs.Ytfcdfbafgmegfaa.stateSwept
open Go.Hb Go.RowKit Go.ChangeShapes Go.WideShapes Go.Proofs

theorem plain : Try.f14.params.toList.all (plainT Try.prog 6) = true := by rw [Try.params14]; kernel_rfl
theorem reads : Try.f14.params.toList.all (fun t => Try.prog.readableRec t && Nat.blt t Try.prog.types.size) = true := by rw [Try.params14]; kernel_rfl
theorem results : Try.f14.resultTypes = #[4] := by kernel_rfl

set_option maxRecDepth 100000 in
theorem meets (ss : List V) (hh0 : ArgsOk Try.prog 6 Try.f14.params.toList ss) : SpecD Try.prog 14 ss (.bool true) := by
  rw [Try.params14] at hh0
  obtain ⟨l0, rfl, h0⟩ := args_one hh0
  obtain ⟨m0, k0, ok0⟩ := shape_mac h0
  have e0 : argV Try.prog 30 l0 = .agg l0 := by unfold argV isRow; rw [Try.underlying30]; rfl
  rw [e0]
  exact (swept_law m0 ok0).args (.cons (.agg k0) .nil)

set_option maxRecDepth 100000 in
theorem cont (H : Type) (enc : TypeId × Value → H) (W : World) (base : Nat) (args : Array Value) (ds gs : List (DataW H)) (before : List MemPlace)
    (hval : ∀ (j : Nat) t v, Try.f14.params[j]? = some t → args[j]? = some v → Value.okWide Try.prog W .any base t v)
    (hW : DataW.Whole enc Try.prog Try.f14.params.toList Rows.stateSweptSpec.vars false W args.toList ds gs before)
    (hsz : (DataW.weightsEach Try.prog (Try.f14.params.toList ++ Rows.stateSweptSpec.plain.varTypes Try.prog) (ds ++ gs)).all (· ≤ reachBytes) = true) :
    Calls Try.prog 14 args W fun e W' => ∃ v, e = .returned v ∧ Rows.stateSweptSpec.post enc Try.prog Try.f14 false true false false W args v W' := by
  refine law_close (P := Try.prog) (f := 14) (enc := enc) (apart := false) (fresh := true) (handsOn := false) (again := false) (fn := Try.f14) (s := Rows.stateSweptSpec) (tb := 4) 6 plain rfl results Try.underlying4 (fun ds hl => ?_) prog_laid reads meets W base args ds gs before hval hW hsz
  rw [Try.params14] at hl
  match ds, hl with
  | [d0], _ => rfl

set_option maxRecDepth 100000 in
theorem lifted (os : Os) (started : os.Started) (H : Type) (enc : TypeId × Value → H) :
    ReturnsInHanded {} Try.checked os 14 .any (Rows.stateSweptSpec.pre6 enc Try.prog Try.f14 Rows.stateSweptRow.domain false) (Rows.stateSweptSpec.post enc Try.prog Try.f14 false true false false) := by
  refine returnsInHanded_of_change_sized (C := Try.checked) prog_own started (by kernel_rfl) Try.func14
    (ChangeSpec.witness6 (enc := enc) (C := Try.checked) false ⟨#[], #[noM], []⟩ 8 (by kernel_rfl) (by kernel_rfl) (by kernel_rfl) (by kernel_rfl)) ?_
  intro W base args ds gs before hval hW _ hsz _
  exact cont H enc W base args ds gs before hval hW hsz

set_option maxRecDepth 100000 in
theorem facts : joinedFacts Try.prog 14 Try.f14 Rows.stateSweptSpec Rows.stateSweptRow = true := by
  unfold joinedFacts
  rw [prog_laid, prog_maps, prog_keys, prog_heard, prog_enter, prog_lifts, prog_make]
  kernel_rfl

theorem over : Rows.StateSweptSaid :=
  OpenClaim.holds_of_wide 14 Try.f14 rfl rfl rfl rfl rfl rfl rfl ⟨rfl, rfl, rfl, rfl, rfl⟩ rfl rfl rfl rfl rfl (by kernel_rfl) Try.func14 facts
    (of_decide_eq_true (by kernel_rfl)) (by unfold Func.isWrapper; first | (rw [if_pos (by decide +kernel)]; kernel_rfl) | (rw [if_neg (by decide +kernel)]; exact ⟨rfl, rfl⟩))
    (fun os started H enc _ => lifted os started H enc)
end Go.Proofs.Ytfcdfbafgmegfaa.stateSwept
