/-
  'hibernaclelaw25.StateChecks' hands back true, whatever the input, and every argument reads behind the call as it did before.
  Conditions: none.
-/
import Derived.Test.YtfcdfbafgmegfaaRows
import Derived.Test.YtfcdfbafgmegfaaFoC
import Derived.Test.YtfcdfbafgmegfaaPrg
import Derived.ProofKit
namespace Go.Proofs.Ytfcdfbafgmegfaa.stateChecks
open Go.Hb Go.RowKit Go.ChangeShapes Go.WideShapes Go.Proofs

theorem plain : Try.f12.params.toList.all (plainT Try.prog 6) = true := by rw [Try.params12]; kernel_rfl
theorem reads : Try.f12.params.toList.all (fun t => Try.prog.readableRec t && Nat.blt t Try.prog.types.size) = true := by rw [Try.params12]; kernel_rfl
theorem results : Try.f12.resultTypes = #[4] := by kernel_rfl

set_option maxRecDepth 100000 in
theorem meets (ss : List V) (hh0 : ArgsOk Try.prog 6 Try.f12.params.toList ss) : SpecD Try.prog 12 ss (.bool true) := by
  rw [Try.params12] at hh0
  obtain ⟨l0, ss0, rfl, h0, hh1⟩ := args_cons hh0
  obtain ⟨m0, k0, ok0⟩ := shape_mac h0
  have e0 : argV Try.prog 30 l0 = .agg l0 := by unfold argV isRow; rw [Try.underlying30]; rfl
  obtain ⟨l1, rfl, h1⟩ := args_one hh1
  obtain ⟨x1, rfl, w1⟩ := leaf_int Try.underlying3 h1
  have e1 : argV Try.prog 3 [.int .i64 x1] = .int .i64 x1 := by unfold argV isRow; rw [Try.underlying3]; rfl
  rw [e0, e1]
  exact (checks_law m0 ok0 x1 w1).args (.cons (.agg k0) <| .cons (.refl _) .nil)

set_option maxRecDepth 100000 in
theorem cont (H : Type) (enc : TypeId × Value → H) (W : World) (base : Nat) (args : Array Value) (ds gs : List (DataW H)) (before : List MemPlace)
    (hval : ∀ (j : Nat) t v, Try.f12.params[j]? = some t → args[j]? = some v → Value.okWide Try.prog W .any base t v)
    (hW : DataW.Whole enc Try.prog Try.f12.params.toList Rows.stateChecksSpec.vars false W args.toList ds gs before)
    (hsz : (DataW.weightsEach Try.prog (Try.f12.params.toList ++ Rows.stateChecksSpec.plain.varTypes Try.prog) (ds ++ gs)).all (· ≤ reachBytes) = true) :
    Calls Try.prog 12 args W fun e W' => ∃ v, e = .returned v ∧ Rows.stateChecksSpec.post enc Try.prog Try.f12 false true false false W args v W' := by
  refine law_close (P := Try.prog) (f := 12) (enc := enc) (apart := false) (fresh := true) (handsOn := false) (again := false) (fn := Try.f12) (s := Rows.stateChecksSpec) (tb := 4) 6 plain rfl results Try.underlying4 (fun ds hl => ?_) prog_laid reads meets W base args ds gs before hval hW hsz
  rw [Try.params12] at hl
  match ds, hl with
  | [d0, d1], _ => rfl

set_option maxRecDepth 100000 in
theorem lifted (os : Os) (started : os.Started) (H : Type) (enc : TypeId × Value → H) :
    ReturnsInHanded {} Try.checked os 12 .any (Rows.stateChecksSpec.pre6 enc Try.prog Try.f12 Rows.stateChecksRow.domain false) (Rows.stateChecksSpec.post enc Try.prog Try.f12 false true false false) := by
  refine returnsInHanded_of_change_sized (C := Try.checked) prog_own started (by kernel_rfl) Try.func12
    (ChangeSpec.witness6 (enc := enc) (C := Try.checked) false ⟨#[], #[noM, .int .i64 0], []⟩ 8 (by kernel_rfl) (by kernel_rfl) (by kernel_rfl) (by kernel_rfl)) ?_
  intro W base args ds gs before hval hW _ hsz _
  exact cont H enc W base args ds gs before hval hW hsz

set_option maxRecDepth 100000 in
theorem facts : joinedFacts Try.prog 12 Try.f12 Rows.stateChecksSpec Rows.stateChecksRow = true := by
  unfold joinedFacts
  rw [prog_laid, prog_maps, prog_keys, prog_heard, prog_enter, prog_lifts, prog_make]
  kernel_rfl

theorem over : Rows.StateChecksSaid :=
  OpenClaim.holds_of_wide 12 Try.f12 rfl rfl rfl rfl rfl rfl rfl ⟨rfl, rfl, rfl, rfl, rfl⟩ rfl rfl rfl rfl rfl (by kernel_rfl) Try.func12 facts
    (of_decide_eq_true (by kernel_rfl)) (by unfold Func.isWrapper; first | (rw [if_pos (by decide +kernel)]; kernel_rfl) | (rw [if_neg (by decide +kernel)]; exact ⟨rfl, rfl⟩))
    (fun os started H enc _ => lifted os started H enc)
end Go.Proofs.Ytfcdfbafgmegfaa.stateChecks
