/-
  THE PROGRAM: what the claims' form asks of it as a whole: once for all laws.
-/
import Derived.Test.YtfcdfbafgmegfaaGreatChecked
import Derived.Test.YtfcdfbafgmegfaaGreatSy4
import Derived.JoinedOf
import Derived.JoinedTies
import Derived.KernelRfl
import Derived.ProofKit
namespace Go.Hb
open Go.RowKit Go.Proofs
set_option maxRecDepth 100000

/-- The program's order of starting, sign by sign. -/
def initL : List Char := List.map Char.ofNat [104, 97, 114, 110, 101, 115, 115, 32, 100, 98, 98, 54, 97, 52, 100, 53, 48, 50, 97, 98, 48, 55, 49, 55, 49, 56, 98, 54, 101, 100, 56, 101, 54, 56, 56, 50, 50, 102, 55, 99, 49, 99, 54, 51, 49, 99, 48, 99, 50, 49, 57, 53, 50, 50, 52, 101, 97, 48, 49, 102, 100, 51, 56, 51, 48, 49, 54, 48, 101, 48, 51, 98, 32, 99, 117, 116, 32, 97, 116, 32, 104, 105, 98, 101, 114, 110, 97, 99, 108, 101, 47, 104, 105, 98, 101, 114, 110, 97, 99, 108, 101, 108, 97, 119, 50, 54, 46, 80, 114, 111, 99, 82, 105, 103, 104, 116, 32, 104, 105, 98, 101, 114, 110, 97, 99, 108, 101, 47, 104, 105, 98, 101, 114, 110, 97, 99, 108, 101, 108, 97, 119, 50, 55, 46, 83, 99, 104, 101, 100, 65, 119, 97, 107, 101, 32, 104, 105, 98, 101, 114, 110, 97, 99, 108, 101, 47, 104, 105, 98, 101, 114, 110, 97, 99, 108, 101, 108, 97, 119, 50, 54, 46, 80, 114, 111, 99, 69, 110, 100, 115]
theorem init1 : Tryz.prog.initOrder = String.ofList initL := by kernel_rfl
theorem init2 : Tryz.prog.initOrder.toList = initL := by rw [init1, String.toList_ofList]
theorem cut0 : behindMainWord (wordsSigns initL) = "cut".toList :: (wordsSigns initL).drop 3 := by kernel_rfl
theorem cut1 : ∃ r, behindMainWord (wordsSigns Tryz.prog.initOrder.toList) = "cut".toList :: r := ⟨_, by rw [init2]; exact cut0⟩

theorem make_of (P : Program) (r : List (List Char)) (h : behindMainWord (wordsSigns P.initOrder.toList) = "cut".toList :: r) : P.make = some .cut := by
  unfold Program.make
  rw [h]
  have c1 : ("cut".toList == "gc".toList) = false := by decide +kernel
  have c2 : ("cut".toList == "spec".toList) = false := by decide +kernel
  have c3 : ("cut".toList == "cut".toList) = true := by decide +kernel
  simp only [c1, c2, c3, Bool.or_self, Bool.true_or, Bool.false_eq_true, if_false, if_true]
theorem enter_of (P : Program) (r : List (List Char)) (h : behindMainWord (wordsSigns P.initOrder.toList) = "cut".toList :: r) (h1 : P.laysLater = false) (h2 : P.bearsReflect = false) (h3 : P.doorFits [] = true) : P.mayEnter = true := by
  have e : stripLifts liftWords ("cut".toList :: r) = ([], "cut".toList :: r) := by kernel_rfl
  unfold Program.mayEnter
  rw [h]
  have c1 : ("cut".toList == "gc".toList) = false := by decide +kernel
  have c2 : ("cut".toList == "spec".toList) = false := by decide +kernel
  have c3 : ("cut".toList == "carried".toList) = false := by decide +kernel
  have c4 : (("cut".toList :: r).head? == some "cut".toList) = true := by rw [List.head?_cons]; decide +kernel
  have c5 : (([] : List String).contains "reflectrows") = false := by decide +kernel
  have c6 : (([] : List String).contains "finals") = false := by decide +kernel
  have c7 : (([] : List String).contains "leanrows") = false := by decide +kernel
  simp only [e, c1, c2, c3, c4, c5, c6, c7, h1, h2, h3, Bool.false_and, Bool.or_false, Bool.not_false, Bool.or_true, Bool.true_and, Bool.and_self]
theorem lifts_of (P : Program) (r : List (List Char)) (h : behindMainWord (wordsSigns P.initOrder.toList) = "cut".toList :: r) : P.liftsFinal = false := by
  have e : stripLifts liftWords ("cut".toList :: r) = ([], "cut".toList :: r) := by kernel_rfl
  unfold Program.liftsFinal Program.headLifts
  rw [h]
  have c3 : (("cut".toList :: r).head? == some "carried".toList) = false := by rw [List.head?_cons]; decide +kernel
  have c4 : (("cut".toList :: r).head? == some "cut".toList) = true := by rw [List.head?_cons]; decide +kernel
  have c6 : (([] : List String).contains "finals") = false := by decide +kernel
  simp only [e, c3, c4, c6, Bool.false_and, Bool.false_or, if_true]

theorem prog_later : Tryz.prog.laysLater = false := by kernel_rfl
theorem prog_make : Tryz.prog.make = some .cut := cut1.elim fun r h => make_of _ r h
theorem prog_enter : Tryz.prog.mayEnter = true := cut1.elim fun r h => enter_of _ r h prog_later (by kernel_rfl) (by kernel_rfl)
theorem prog_lifts : Tryz.prog.liftsFinal = false := cut1.elim fun r h => lifts_of _ r h
theorem prog_own : ownKnob Tryz.prog.godebug = none := by kernel_rfl
theorem prog_laid : laidOutB Tryz.prog = true := by kernel_rfl
theorem prog_maps : mapsRowed Tryz.prog = true := by kernel_rfl
theorem prog_keys : Tryz.prog.plainKeys = true := by kernel_rfl
theorem prog_heard : Tryz.prog.stopsHeard = true := by kernel_rfl

/-- A machine without anything; a row without anything. -/
def noM : Value := .agg #[.int .u64 0, .int .i64 0, .int .i64 0, .int .i64 0, .slice none 0 0, .slice none 0 0, .int .i64 0, .string ⟨#[]⟩, .slice none 0 0, .int .i64 0, .string ⟨#[]⟩, .bool false, .int .u64 0, .slice none 0 0, .slice none 0 0, .int .i64 0, .slice none 0 0]
end Go.Hb
