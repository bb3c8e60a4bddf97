/-
  THE PROGRAM: what the claims' form asks of it as a whole: once for all laws.
-/
import Derived.Test.YtfcdfbafgmegfaaChecked
import Derived.Test.YtfcdfbafgmegfaaSy4
import Derived.JoinedOf
import Derived.JoinedTies
import Derived.KernelRfl
import Derived.ProofKit
namespace Go.Hb
open Go.RowKit Go.Proofs
set_option maxRecDepth 100000

/-- The program's order of starting, sign by sign. -/
def initL : List Char := List.map Char.ofNat [104, 97, 114, 110, 101, 115, 115, 32, 50, 53, 52, 48, 48, 101, 50, 100, 99, 49, 53, 97, 56, 100, 97, 52, 52, 50, 52, 99, 49, 101, 53, 100, 97, 56, 49, 57, 50, 49, 56, 51, 52, 99, 99, 55, 99, 55, 98, 57, 48, 52, 101, 50, 48, 100, 55, 56, 56, 101, 99, 48, 48, 100, 102, 57, 102, 49, 56, 50, 55, 98, 54, 98, 32, 99, 117, 116, 32, 97, 116, 32, 104, 105, 98, 101, 114, 110, 97, 99, 108, 101, 47, 104, 105, 98, 101, 114, 110, 97, 99, 108, 101, 108, 97, 119, 50, 55, 46, 83, 99, 104, 101, 100, 80, 105, 99, 107, 115, 32, 104, 105, 98, 101, 114, 110, 97, 99, 108, 101, 47, 104, 105, 98, 101, 114, 110, 97, 99, 108, 101, 108, 97, 119, 50, 55, 46, 83, 99, 104, 101, 100, 84, 117, 114, 110, 115, 32, 104, 105, 98, 101, 114, 110, 97, 99, 108, 101, 47, 104, 105, 98, 101, 114, 110, 97, 99, 108, 101, 108, 97, 119, 50, 55, 46, 83, 99, 104, 101, 100, 87, 97, 107, 101, 115, 32, 104, 105, 98, 101, 114, 110, 97, 99, 108, 101, 47, 104, 105, 98, 101, 114, 110, 97, 99, 108, 101, 108, 97, 119, 50, 55, 46, 83, 99, 104, 101, 100, 84, 105, 109, 101, 32, 104, 105, 98, 101, 114, 110, 97, 99, 108, 101, 47, 104, 105, 98, 101, 114, 110, 97, 99, 108, 101, 108, 97, 119, 50, 53, 46, 83, 116, 97, 116, 101, 70, 108, 111, 119, 115, 32, 104, 105, 98, 101, 114, 110, 97, 99, 108, 101, 47, 104, 105, 98, 101, 114, 110, 97, 99, 108, 101, 108, 97, 119, 50, 54, 46, 80, 114, 111, 99, 65, 112, 97, 114, 116, 32, 104, 105, 98, 101, 114, 110, 97, 99, 108, 101, 47, 104, 105, 98, 101, 114, 110, 97, 99, 108, 101, 108, 97, 119, 50, 53, 46, 83, 116, 97, 116, 101, 83, 112, 111, 105, 108, 116, 32, 104, 105, 98, 101, 114, 110, 97, 99, 108, 101, 47, 104, 105, 98, 101, 114, 110, 97, 99, 108, 101, 108, 97, 119, 50, 55, 46, 83, 99, 104, 101, 100, 83, 116, 97, 121, 115, 32, 104, 105, 98, 101, 114, 110, 97, 99, 108, 101, 47, 104, 105, 98, 101, 114, 110, 97, 99, 108, 101, 108, 97, 119, 50, 53, 46, 83, 116, 97, 116, 101, 70, 114, 97, 109, 101, 115, 32, 104, 105, 98, 101, 114, 110, 97, 99, 108, 101, 47, 104, 105, 98, 101, 114, 110, 97, 99, 108, 101, 108, 97, 119, 50, 53, 46, 83, 116, 97, 116, 101, 67, 104, 101, 99, 107, 115, 32, 104, 105, 98, 101, 114, 110, 97, 99, 108, 101, 47, 104, 105, 98, 101, 114, 110, 97, 99, 108, 101, 108, 97, 119, 50, 53, 46, 83, 116, 97, 116, 101, 80, 105, 112, 101, 115, 32, 104, 105, 98, 101, 114, 110, 97, 99, 108, 101, 47, 104, 105, 98, 101, 114, 110, 97, 99, 108, 101, 108, 97, 119, 50, 53, 46, 83, 116, 97, 116, 101, 83, 119, 101, 112, 116, 32, 104, 105, 98, 101, 114, 110, 97, 99, 108, 101, 47, 104, 105, 98, 101, 114, 110, 97, 99, 108, 101, 108, 97, 119, 50, 54, 46, 80, 114, 111, 99, 83, 112, 97, 119, 110, 115, 32, 104, 105, 98, 101, 114, 110, 97, 99, 108, 101, 47, 104, 105, 98, 101, 114, 110, 97, 99, 108, 101, 108, 97, 119, 50, 54, 46, 80, 114, 111, 99, 70, 117, 108, 108, 32, 104, 105, 98, 101, 114, 110, 97, 99, 108, 101, 47, 104, 105, 98, 101, 114, 110, 97, 99, 108, 101, 108, 97, 119, 50, 54, 46, 80, 114, 111, 99, 71, 114, 111, 119, 115, 32, 104, 105, 98, 101, 114, 110, 97, 99, 108, 101, 47, 104, 105, 98, 101, 114, 110, 97, 99, 108, 101, 108, 97, 119, 50, 54, 46, 80, 114, 111, 99, 66, 97, 99, 107, 32, 104, 105, 98, 101, 114, 110, 97, 99, 108, 101, 47, 104, 105, 98, 101, 114, 110, 97, 99, 108, 101, 108, 97, 119, 50, 54, 46, 80, 114, 111, 99, 76, 97, 105, 100]
theorem init1 : Try.prog.initOrder = String.ofList initL := by kernel_rfl
theorem init2 : Try.prog.initOrder.toList = initL := by rw [init1, String.toList_ofList]
theorem cut0 : behindMainWord (wordsSigns initL) = "cut".toList :: (wordsSigns initL).drop 3 := by kernel_rfl
theorem cut1 : ∃ r, behindMainWord (wordsSigns Try.prog.initOrder.toList) = "cut".toList :: r := ⟨_, by rw [init2]; exact cut0⟩

theorem make_of (P : Program) (r : List (List Char)) (h : behindMainWord (wordsSigns P.initOrder.toList) = "cut".toList :: r) : P.make = some .cut := by
  unfold Program.make
  rw [h]
  have c1 : ("cut".toList == "gc".toList) = false := by decide +kernel
  have c2 : ("cut".toList == "spec".toList) = false := by decide +kernel
  have c3 : ("cut".toList == "cut".toList) = true := by decide +kernel
  simp only [c1, c2, c3, Bool.or_self, Bool.true_or, Bool.false_eq_true, if_false, if_true]
theorem enter_of (P : Program) (r : List (List Char)) (h : behindMainWord (wordsSigns P.initOrder.toList) = "cut".toList :: r) (h1 : P.laysLater = false) (h2 : P.bearsReflect = false) (h3 : P.doorFits [] = true) : P.mayEnter = true := by
  have e : stripLifts liftWords ("cut".toList :: r) = ([], "cut".toList :: r) := by kernel_rfl
  unfold Program.mayEnter
  rw [h]
  have c1 : ("cut".toList == "gc".toList) = false := by decide +kernel
  have c2 : ("cut".toList == "spec".toList) = false := by decide +kernel
  have c3 : ("cut".toList == "carried".toList) = false := by decide +kernel
  have c4 : (("cut".toList :: r).head? == some "cut".toList) = true := by rw [List.head?_cons]; decide +kernel
  have c5 : (([] : List String).contains "reflectrows") = false := by decide +kernel
  have c6 : (([] : List String).contains "finals") = false := by decide +kernel
  have c7 : (([] : List String).contains "leanrows") = false := by decide +kernel
  simp only [e, c1, c2, c3, c4, c5, c6, c7, h1, h2, h3, Bool.false_and, Bool.or_false, Bool.not_false, Bool.or_true, Bool.true_and, Bool.and_self]
theorem lifts_of (P : Program) (r : List (List Char)) (h : behindMainWord (wordsSigns P.initOrder.toList) = "cut".toList :: r) : P.liftsFinal = false := by
  have e : stripLifts liftWords ("cut".toList :: r) = ([], "cut".toList :: r) := by kernel_rfl
  unfold Program.liftsFinal Program.headLifts
  rw [h]
  have c3 : (("cut".toList :: r).head? == some "carried".toList) = false := by rw [List.head?_cons]; decide +kernel
  have c4 : (("cut".toList :: r).head? == some "cut".toList) = true := by rw [List.head?_cons]; decide +kernel
  have c6 : (([] : List String).contains "finals") = false := by decide +kernel
  simp only [e, c3, c4, c6, Bool.false_and, Bool.false_or, if_true]

theorem prog_later : Try.prog.laysLater = false := by kernel_rfl
theorem prog_make : Try.prog.make = some .cut := cut1.elim fun r h => make_of _ r h
theorem prog_enter : Try.prog.mayEnter = true := cut1.elim fun r h => enter_of _ r h prog_later (by kernel_rfl) (by kernel_rfl)
theorem prog_lifts : Try.prog.liftsFinal = false := cut1.elim fun r h => lifts_of _ r h
theorem prog_own : ownKnob Try.prog.godebug = none := by kernel_rfl
theorem prog_laid : laidOutB Try.prog = true := by kernel_rfl
theorem prog_maps : mapsRowed Try.prog = true := by kernel_rfl
theorem prog_keys : Try.prog.plainKeys = true := by kernel_rfl
theorem prog_heard : Try.prog.stopsHeard = true := by kernel_rfl

/-- A machine without anything; a row without anything. -/
def noM : Value := .agg #[.int .u64 0, .int .i64 0, .int .i64 0, .int .i64 0, .slice none 0 0, .slice none 0 0, .int .i64 0, .string ⟨#[]⟩, .slice none 0 0, .int .i64 0, .string ⟨#[]⟩, .bool false, .int .u64 0, .slice none 0 0, .slice none 0 0, .int .i64 0, .slice none 0 0]
end Go.Hb
