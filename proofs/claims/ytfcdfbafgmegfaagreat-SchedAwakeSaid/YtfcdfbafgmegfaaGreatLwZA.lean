/-
  'hibernaclelaw27.SchedAwake' hands back true, whatever the input, and every argument reads behind the call as it did before.
  Conditions: none.
-/
import Derived.Test.YtfcdfbafgmegfaaGreatRows
import Derived.Test.YtfcdfbafgmegfaaGreatFzA
import Derived.Test.YtfcdfbafgmegfaaGreatPrg
import Derived.ProofKit
namespace Go.Proofs.YtfcdfbafgmegfaaGreat.schedAwake
open Go.Hb Go.RowKit Go.ChangeShapes Go.WideShapes Go.Proofs

theorem plain : Tryz.f4.params.toList.all (plainT Tryz.prog 6) = true := by rw [Tryz.params4]; kernel_rfl
theorem reads : Tryz.f4.params.toList.all (fun t => Tryz.prog.readableRec t && Nat.blt t Tryz.prog.types.size) = true := by rw [Tryz.params4]; kernel_rfl
theorem results : Tryz.f4.resultTypes = #[4] := by kernel_rfl

set_option maxRecDepth 100000 in
theorem meets (ss : List V) (hh0 : ArgsOk Tryz.prog 6 Tryz.f4.params.toList ss) : SpecD Tryz.prog 4 ss (.bool true) := by
  rw [Tryz.params4] at hh0
  obtain ⟨l0, rfl, h0⟩ := args_one hh0
  obtain ⟨m0, k0, ok0⟩ := shape_mac h0
  have e0 : argV Tryz.prog 30 l0 = .agg l0 := by unfold argV isRow; rw [Tryz.underlying30]; rfl
  rw [e0]
  exact (awake_spec m0 ok0).args (.cons (.agg k0) .nil)

set_option maxRecDepth 100000 in
theorem cont (H : Type) (enc : TypeId × Value → H) (W : World) (base : Nat) (args : Array Value) (ds gs : List (DataW H)) (before : List MemPlace)
    (hval : ∀ (j : Nat) t v, Tryz.f4.params[j]? = some t → args[j]? = some v → Value.okWide Tryz.prog W .any base t v)
    (hW : DataW.Whole enc Tryz.prog Tryz.f4.params.toList Rows.schedAwakeSpec.vars false W args.toList ds gs before)
    (hsz : (DataW.weightsEach Tryz.prog (Tryz.f4.params.toList ++ Rows.schedAwakeSpec.plain.varTypes Tryz.prog) (ds ++ gs)).all (· ≤ reachBytes) = true) :
    Calls Tryz.prog 4 args W fun e W' => ∃ v, e = .returned v ∧ Rows.schedAwakeSpec.post enc Tryz.prog Tryz.f4 false true false false W args v W' := by
  refine law_close (P := Tryz.prog) (f := 4) (enc := enc) (apart := false) (fresh := true) (handsOn := false) (again := false) (fn := Tryz.f4) (s := Rows.schedAwakeSpec) (tb := 4) 6 plain rfl results Tryz.underlying4 (fun ds hl => ?_) prog_laid reads meets W base args ds gs before hval hW hsz
  rw [Tryz.params4] at hl
  match ds, hl with
  | [d0], _ => rfl

set_option maxRecDepth 100000 in
theorem lifted (os : Os) (started : os.Started) (H : Type) (enc : TypeId × Value → H) :
    ReturnsInHanded {} Tryz.checked os 4 .any (Rows.schedAwakeSpec.pre6 enc Tryz.prog Tryz.f4 Rows.schedAwakeRow.domain false) (Rows.schedAwakeSpec.post enc Tryz.prog Tryz.f4 false true false false) := by
  refine returnsInHanded_of_change_sized (C := Tryz.checked) prog_own started (by kernel_rfl) Tryz.func4
    (ChangeSpec.witness6 (enc := enc) (C := Tryz.checked) false ⟨#[], #[noM], []⟩ 8 (by kernel_rfl) (by kernel_rfl) (by kernel_rfl) (by kernel_rfl)) ?_
  intro W base args ds gs before hval hW _ hsz _
  exact cont H enc W base args ds gs before hval hW hsz

set_option maxRecDepth 100000 in
theorem facts : joinedFacts Tryz.prog 4 Tryz.f4 Rows.schedAwakeSpec Rows.schedAwakeRow = true := by
  unfold joinedFacts
  rw [prog_laid, prog_maps, prog_keys, prog_heard, prog_enter, prog_lifts, prog_make]
  kernel_rfl

theorem over : Rows.SchedAwakeSaid :=
  OpenClaim.holds_of_wide 4 Tryz.f4 rfl rfl rfl rfl rfl rfl rfl ⟨rfl, rfl, rfl, rfl, rfl⟩ rfl rfl rfl rfl rfl (by kernel_rfl) Tryz.func4 facts
    (of_decide_eq_true (by kernel_rfl)) (by unfold Func.isWrapper; first | (rw [if_pos (by decide +kernel)]; kernel_rfl) | (rw [if_neg (by decide +kernel)]; exact ⟨rfl, rfl⟩))
    (fun os started H enc _ => lifted os started H enc)
end Go.Proofs.YtfcdfbafgmegfaaGreat.schedAwake
