/-
  'hibernaclelaw27.SchedTime' hands back true, whatever the input, and every argument reads behind the call as it did before.
  Conditions: none.
-/
import Derived.Test.YtfcdfbafgmegfaaRows
import Derived.Test.YtfcdfbafgmegfaaFnP
import Derived.Test.YtfcdfbafgmegfaaPrg
import Derived.ProofKit
namespace Go.Proofs.Ytfcdfbafgmegfaa.schedTime
open Go.Hb Go.RowKit Go.ChangeShapes Go.WideShapes Go.Proofs

theorem plain : Try.f6.params.toList.all (plainT Try.prog 6) = true := by rw [Try.params6]; kernel_rfl
theorem reads : Try.f6.params.toList.all (fun t => Try.prog.readableRec t && Nat.blt t Try.prog.types.size) = true := by rw [Try.params6]; kernel_rfl
theorem results : Try.f6.resultTypes = #[4] := by kernel_rfl

set_option maxRecDepth 100000 in
theorem meets (ss : List V) (hh0 : ArgsOk Try.prog 6 Try.f6.params.toList ss) : SpecD Try.prog 6 ss (.bool true) := by
  rw [Try.params6] at hh0
  obtain ⟨l0, ss0, rfl, h0, hh1⟩ := args_cons hh0
  obtain ⟨m0, k0, ok0⟩ := shape_mac h0
  have e0 : argV Try.prog 30 l0 = .agg l0 := by unfold argV isRow; rw [Try.underlying30]; rfl
  obtain ⟨l1, ss1, rfl, h1, hh2⟩ := args_cons hh1
  obtain ⟨x1, rfl, w1⟩ := leaf_int Try.underlying22 h1
  have e1 : argV Try.prog 22 [.int .u64 x1] = .int .u64 x1 := by unfold argV isRow; rw [Try.underlying22]; rfl
  obtain ⟨l2, rfl, h2⟩ := args_one hh2
  obtain ⟨x2, rfl⟩ := leaf_bool h2
  have e2 : argV Try.prog 4 [.bool x2] = .bool x2 := by unfold argV isRow; rw [Try.underlying4]; rfl
  rw [e0, e1, e2]
  exact (time_spec m0 ok0 x1 w1 x2).args (.cons (.agg k0) <| .cons (.refl _) <| .cons (.refl _) .nil)

set_option maxRecDepth 100000 in
theorem cont (H : Type) (enc : TypeId × Value → H) (W : World) (base : Nat) (args : Array Value) (ds gs : List (DataW H)) (before : List MemPlace)
    (hval : ∀ (j : Nat) t v, Try.f6.params[j]? = some t → args[j]? = some v → Value.okWide Try.prog W .any base t v)
    (hW : DataW.Whole enc Try.prog Try.f6.params.toList Rows.schedTimeSpec.vars false W args.toList ds gs before)
    (hsz : (DataW.weightsEach Try.prog (Try.f6.params.toList ++ Rows.schedTimeSpec.plain.varTypes Try.prog) (ds ++ gs)).all (· ≤ reachBytes) = true) :
    Calls Try.prog 6 args W fun e W' => ∃ v, e = .returned v ∧ Rows.schedTimeSpec.post enc Try.prog Try.f6 false true false false W args v W' := by
  refine law_close (P := Try.prog) (f := 6) (enc := enc) (apart := false) (fresh := true) (handsOn := false) (again := false) (fn := Try.f6) (s := Rows.schedTimeSpec) (tb := 4) 6 plain rfl results Try.underlying4 (fun ds hl => ?_) prog_laid reads meets W base args ds gs before hval hW hsz
  rw [Try.params6] at hl
  match ds, hl with
  | [d0, d1, d2], _ => rfl

set_option maxRecDepth 100000 in
theorem lifted (os : Os) (started : os.Started) (H : Type) (enc : TypeId × Value → H) :
    ReturnsInHanded {} Try.checked os 6 .any (Rows.schedTimeSpec.pre6 enc Try.prog Try.f6 Rows.schedTimeRow.domain false) (Rows.schedTimeSpec.post enc Try.prog Try.f6 false true false false) := by
  refine returnsInHanded_of_change_sized (C := Try.checked) prog_own started (by kernel_rfl) Try.func6
    (ChangeSpec.witness6 (enc := enc) (C := Try.checked) false ⟨#[], #[noM, .int .u64 0, .bool false], []⟩ 8 (by kernel_rfl) (by kernel_rfl) (by kernel_rfl) (by kernel_rfl)) ?_
  intro W base args ds gs before hval hW _ hsz _
  exact cont H enc W base args ds gs before hval hW hsz

set_option maxRecDepth 100000 in
theorem facts : joinedFacts Try.prog 6 Try.f6 Rows.schedTimeSpec Rows.schedTimeRow = true := by
  unfold joinedFacts
  rw [prog_laid, prog_maps, prog_keys, prog_heard, prog_enter, prog_lifts, prog_make]
  kernel_rfl

theorem over : Rows.SchedTimeSaid :=
  OpenClaim.holds_of_wide 6 Try.f6 rfl rfl rfl rfl rfl rfl rfl ⟨rfl, rfl, rfl, rfl, rfl⟩ rfl rfl rfl rfl rfl (by kernel_rfl) Try.func6 facts
    (of_decide_eq_true (by kernel_rfl)) (by unfold Func.isWrapper; first | (rw [if_pos (by decide +kernel)]; kernel_rfl) | (rw [if_neg (by decide +kernel)]; exact ⟨rfl, rfl⟩))
    (fun os started H enc _ => lifted os started H enc)
end Go.Proofs.Ytfcdfbafgmegfaa.schedTime
