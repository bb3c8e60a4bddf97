/-
  No cell of these rows narrows 'for every input' (looked for: loops, veiled, ifaces, maps, wideKeys, modest, calm, conditions, laid).
  DERIVED. THE GIVEN ROWS OF THIS SEAT. 3 by the template 'for every input the law returns true; each argument reads behind the call as it read before'; 0 by the template 'total and deterministic' (their statements: YtfcdfbafgmegfaaGreatTotals.lean).
  GIVEN WITH THE SEED: the statements are not yours to turn. If you find one false, say at which input.
  Laid BY PROGRAM, IN A SANDBOX (cutbox-rows.mjs): the forced cells as the released guide's own fill.sh prints them over the translation 961b047ef2d57317… (all of the seat's roots in one cut). By AI agents, Wed Nov 11 2026. No macro, syntax, notation, axiom, sorry.
-/
import Derived.Test.YtfcdfbafgmegfaaGreatChecked
import GoSem.Claim
import GoSem.ClaimJoined
import GoSem.ClaimMapViews
import Derived.JoinedTies
import Derived.KernelRfl
namespace Go.Proofs.YtfcdfbafgmegfaaGreat
/- THE CELL 'sum', in the pinned program and in every row, IS THE sha256 OF THE DUMP (.gsa) THAT YtfcdfbafgmegfaaGreatProg.lean LOADS. Nothing in Lean hashes anything: it is a label: what it is worth is what the hold of that sum in a sandbox is worth. -/
noncomputable def Tryz.pinned : Pinned := { name := "ytfcdfbafgmegfaagreat", sum := "961b047ef2d573174893bb2eae2383423d2fde4556b821eda1eea26801691d82", checked := Tryz.checked }
namespace Rows
def none {H : Type} : Left H := { results := [], args := [] }

/-- 'hibernaclelaw26.ProcRight': WHATEVER THE INPUT: true; the input reads as it did. -/
def procRightSpec : ChangeSpec := { name := "procRight", fn := fun _ => fun
  | [d1, d2, d3, d4, d5] => { results := [.lit (.bool true)], args := [d1, d2, d3, d4, d5] }
  | _ => none }
def procRightRow : OpenClaim := { program := "ytfcdfbafgmegfaagreat", sum := "961b047ef2d573174893bb2eae2383423d2fde4556b821eda1eea26801691d82", func := "hibernacle/hibernaclelaw26.ProcRight", spec := "procRight", inPlace := ["internal/abi.NoEscape", "internal/bytealg.MakeNoZero"], unfollowed := true, recurses := true, apart := false }
def ProcRightSaid : Prop := procRightRow.holds Tryz.pinned (OpenSpec.ofChange procRightSpec)

/-- ITS FALSE NEIGHBOUR: 'it returns false'. Refute it at one input. -/
def procRightWrong : ChangeSpec := { name := "procRight", fn := fun _ => fun
  | [d1, d2, d3, d4, d5] => { results := [.lit (.bool false)], args := [d1, d2, d3, d4, d5] }
  | _ => none }
def ProcRightWrongFalsely : Prop := procRightRow.holds Tryz.pinned (OpenSpec.ofChange procRightWrong)

/-- 'hibernaclelaw27.SchedAwake': WHATEVER THE INPUT: true; the input reads as it did. -/
def schedAwakeSpec : ChangeSpec := { name := "schedAwake", fn := fun _ => fun
  | [d] => { results := [.lit (.bool true)], args := [d] }
  | _ => none }
def schedAwakeRow : OpenClaim := { program := "ytfcdfbafgmegfaagreat", sum := "961b047ef2d573174893bb2eae2383423d2fde4556b821eda1eea26801691d82", func := "hibernacle/hibernaclelaw27.SchedAwake", spec := "schedAwake", inPlace := ["internal/abi.NoEscape", "internal/bytealg.MakeNoZero"], unfollowed := true, recurses := true, apart := false }
def SchedAwakeSaid : Prop := schedAwakeRow.holds Tryz.pinned (OpenSpec.ofChange schedAwakeSpec)

/-- ITS FALSE NEIGHBOUR: 'it returns false'. Refute it at one input. -/
def schedAwakeWrong : ChangeSpec := { name := "schedAwake", fn := fun _ => fun
  | [d] => { results := [.lit (.bool false)], args := [d] }
  | _ => none }
def SchedAwakeWrongFalsely : Prop := schedAwakeRow.holds Tryz.pinned (OpenSpec.ofChange schedAwakeWrong)

/-- 'hibernaclelaw26.ProcEnds': WHATEVER THE INPUT: true; the input reads as it did. -/
def procEndsSpec : ChangeSpec := { name := "procEnds", fn := fun _ => fun
  | [d1, d2, d3, d4] => { results := [.lit (.bool true)], args := [d1, d2, d3, d4] }
  | _ => none }
def procEndsRow : OpenClaim := { program := "ytfcdfbafgmegfaagreat", sum := "961b047ef2d573174893bb2eae2383423d2fde4556b821eda1eea26801691d82", func := "hibernacle/hibernaclelaw26.ProcEnds", spec := "procEnds", inPlace := ["internal/abi.NoEscape", "internal/bytealg.MakeNoZero"], unfollowed := true, recurses := true, apart := false }
def ProcEndsSaid : Prop := procEndsRow.holds Tryz.pinned (OpenSpec.ofChange procEndsSpec)

/-- ITS FALSE NEIGHBOUR: 'it returns false'. Refute it at one input. -/
def procEndsWrong : ChangeSpec := { name := "procEnds", fn := fun _ => fun
  | [d1, d2, d3, d4] => { results := [.lit (.bool false)], args := [d1, d2, d3, d4] }
  | _ => none }
def ProcEndsWrongFalsely : Prop := procEndsRow.holds Tryz.pinned (OpenSpec.ofChange procEndsWrong)

/- THE SECOND FORM. 'bulk': how many values and letters a reading holds, each counted each time it is reached (what is shared counts as often as it is met; a slice's spare places count too). A statement '..UptoSaid' is the law's where the arguments, and the package variables that the reading takes, are together of bulk at most 1048576: NARROWER than '..Said'. Prove '..Said' where nothing that the law and all that it calls make is longer than what came in: it says more and counts as full. Else prove '..UptoSaid'. A law counts once. -/
mutual
def uptoBulk {H : Type} : DataW H → Nat
  | .lit (.string bytes) => bytes.length + 1
  | .lit _ => 1
  | .nil => 1
  | .ptr d => uptoBulk d + 1
  | .slice elems spare => uptoBulkAll elems + uptoBulkAll spare + 1
  | .agg parts => uptoBulkAll parts + 1
  | .iface _ d => uptoBulk d + 1
  | .map entries => uptoBulkEntries entries + 1
  | .held _ => 1
def uptoBulkAll {H : Type} : List (DataW H) → Nat
  | [] => 0
  | d :: r => uptoBulk d + uptoBulkAll r
def uptoBulkEntries {H : Type} : List (Lit × DataW H) → Nat
  | [] => 0
  | x :: r => uptoBulkEntry x + uptoBulkEntries r
def uptoBulkEntry {H : Type} : Lit × DataW H → Nat
  | (.string bytes, d) => bytes.length + uptoBulk d + 1
  | (_, d) => uptoBulk d + 1
 end
def uptoSmall : (H : Type) → List (DataW H) → Bool := fun _ ds => decide (uptoBulkAll ds ≤ 1048576)
def OpenSpec.upto (s : _root_.Go.ChangeSpec) : _root_.Go.OpenSpec := { _root_.Go.OpenSpec.ofChange s with cond := some uptoSmall }

/-- 'hibernaclelaw26.ProcRight', WHERE WHAT IT READS IS OF BULK AT MOST 1048576: true; the input reads as it did. -/
def procRightUptoRow : OpenClaim := { program := "ytfcdfbafgmegfaagreat", sum := "961b047ef2d573174893bb2eae2383423d2fde4556b821eda1eea26801691d82", func := "hibernacle/hibernaclelaw26.ProcRight", spec := "procRight", inPlace := ["internal/abi.NoEscape", "internal/bytealg.MakeNoZero"], unfollowed := true, recurses := true, apart := false, narrowed := true }
def ProcRightUptoSaid : Prop := procRightUptoRow.holds Tryz.pinned (OpenSpec.upto procRightSpec)

/-- 'hibernaclelaw27.SchedAwake', WHERE WHAT IT READS IS OF BULK AT MOST 1048576: true; the input reads as it did. -/
def schedAwakeUptoRow : OpenClaim := { program := "ytfcdfbafgmegfaagreat", sum := "961b047ef2d573174893bb2eae2383423d2fde4556b821eda1eea26801691d82", func := "hibernacle/hibernaclelaw27.SchedAwake", spec := "schedAwake", inPlace := ["internal/abi.NoEscape", "internal/bytealg.MakeNoZero"], unfollowed := true, recurses := true, apart := false, narrowed := true }
def SchedAwakeUptoSaid : Prop := schedAwakeUptoRow.holds Tryz.pinned (OpenSpec.upto schedAwakeSpec)

/-- 'hibernaclelaw26.ProcEnds', WHERE WHAT IT READS IS OF BULK AT MOST 1048576: true; the input reads as it did. -/
def procEndsUptoRow : OpenClaim := { program := "ytfcdfbafgmegfaagreat", sum := "961b047ef2d573174893bb2eae2383423d2fde4556b821eda1eea26801691d82", func := "hibernacle/hibernaclelaw26.ProcEnds", spec := "procEnds", inPlace := ["internal/abi.NoEscape", "internal/bytealg.MakeNoZero"], unfollowed := true, recurses := true, apart := false, narrowed := true }
def ProcEndsUptoSaid : Prop := procEndsUptoRow.holds Tryz.pinned (OpenSpec.upto procEndsSpec)

end Rows
end Go.Proofs.YtfcdfbafgmegfaaGreat
