/-
  No cell of these rows narrows 'for every input' (looked for: loops, veiled, ifaces, maps, wideKeys, modest, calm, conditions, laid).
  DERIVED. THE GIVEN ROWS OF THIS SEAT. 17 by the template 'for every input the law returns true; each argument reads behind the call as it read before'; 0 by the template 'total and deterministic' (their statements: YtfcdfbafgmegfaaTotals.lean).
  GIVEN WITH THE SEED: the statements are not yours to turn. If you find one false, say at which input.
  Laid BY PROGRAM, IN A SANDBOX (cutbox-rows.mjs): the forced cells as the released guide's own fill.sh prints them over the translation 57b8ba7bfcf4327d… (all of the seat's roots in one cut). By AI agents, Wed Nov 11 2026. No macro, syntax, notation, axiom, sorry.
-/
import Derived.Test.YtfcdfbafgmegfaaChecked
import GoSem.Claim
import GoSem.ClaimJoined
import GoSem.ClaimMapViews
import Derived.JoinedTies
import Derived.KernelRfl
namespace Go.Proofs.Ytfcdfbafgmegfaa
/- THE CELL 'sum', in the pinned program and in every row, IS THE sha256 OF THE DUMP (.gsa) THAT YtfcdfbafgmegfaaProg.lean LOADS. Nothing in Lean hashes anything: it is a label: what it is worth is what the hold of that sum in a sandbox is worth. -/
noncomputable def Try.pinned : Pinned := { name := "ytfcdfbafgmegfaa", sum := "57b8ba7bfcf4327d5e23cca0711a950f0bd94df7591af78567f1756873b906bf", checked := Try.checked }
namespace Rows
def none {H : Type} : Left H := { results := [], args := [] }

/-- 'hibernaclelaw27.SchedPicks': WHATEVER THE INPUT: true; the input reads as it did. -/
def schedPicksSpec : ChangeSpec := { name := "schedPicks", fn := fun _ => fun
  | [d] => { results := [.lit (.bool true)], args := [d] }
  | _ => none }
def schedPicksRow : OpenClaim := { program := "ytfcdfbafgmegfaa", sum := "57b8ba7bfcf4327d5e23cca0711a950f0bd94df7591af78567f1756873b906bf", func := "hibernacle/hibernaclelaw27.SchedPicks", spec := "schedPicks", inPlace := ["internal/abi.NoEscape", "internal/bytealg.MakeNoZero"], unfollowed := true, recurses := true, apart := false }
def SchedPicksSaid : Prop := schedPicksRow.holds Try.pinned (OpenSpec.ofChange schedPicksSpec)

/-- ITS FALSE NEIGHBOUR: 'it returns false'. Refute it at one input. -/
def schedPicksWrong : ChangeSpec := { name := "schedPicks", fn := fun _ => fun
  | [d] => { results := [.lit (.bool false)], args := [d] }
  | _ => none }
def SchedPicksWrongFalsely : Prop := schedPicksRow.holds Try.pinned (OpenSpec.ofChange schedPicksWrong)

/-- 'hibernaclelaw27.SchedTurns': WHATEVER THE INPUT: true; the input reads as it did. -/
def schedTurnsSpec : ChangeSpec := { name := "schedTurns", fn := fun _ => fun
  | [d] => { results := [.lit (.bool true)], args := [d] }
  | _ => none }
def schedTurnsRow : OpenClaim := { program := "ytfcdfbafgmegfaa", sum := "57b8ba7bfcf4327d5e23cca0711a950f0bd94df7591af78567f1756873b906bf", func := "hibernacle/hibernaclelaw27.SchedTurns", spec := "schedTurns", inPlace := ["internal/abi.NoEscape", "internal/bytealg.MakeNoZero"], unfollowed := true, recurses := true, apart := false }
def SchedTurnsSaid : Prop := schedTurnsRow.holds Try.pinned (OpenSpec.ofChange schedTurnsSpec)

/-- ITS FALSE NEIGHBOUR: 'it returns false'. Refute it at one input. -/
def schedTurnsWrong : ChangeSpec := { name := "schedTurns", fn := fun _ => fun
  | [d] => { results := [.lit (.bool false)], args := [d] }
  | _ => none }
def SchedTurnsWrongFalsely : Prop := schedTurnsRow.holds Try.pinned (OpenSpec.ofChange schedTurnsWrong)

/-- 'hibernaclelaw27.SchedWakes': WHATEVER THE INPUT: true; the input reads as it did. -/
def schedWakesSpec : ChangeSpec := { name := "schedWakes", fn := fun _ => fun
  | [d1, d2] => { results := [.lit (.bool true)], args := [d1, d2] }
  | _ => none }
def schedWakesRow : OpenClaim := { program := "ytfcdfbafgmegfaa", sum := "57b8ba7bfcf4327d5e23cca0711a950f0bd94df7591af78567f1756873b906bf", func := "hibernacle/hibernaclelaw27.SchedWakes", spec := "schedWakes", inPlace := ["internal/abi.NoEscape", "internal/bytealg.MakeNoZero"], unfollowed := true, recurses := true, apart := false }
def SchedWakesSaid : Prop := schedWakesRow.holds Try.pinned (OpenSpec.ofChange schedWakesSpec)

/-- ITS FALSE NEIGHBOUR: 'it returns false'. Refute it at one input. -/
def schedWakesWrong : ChangeSpec := { name := "schedWakes", fn := fun _ => fun
  | [d1, d2] => { results := [.lit (.bool false)], args := [d1, d2] }
  | _ => none }
def SchedWakesWrongFalsely : Prop := schedWakesRow.holds Try.pinned (OpenSpec.ofChange schedWakesWrong)

/-- 'hibernaclelaw27.SchedTime': WHATEVER THE INPUT: true; the input reads as it did. -/
def schedTimeSpec : ChangeSpec := { name := "schedTime", fn := fun _ => fun
  | [d1, d2, d3] => { results := [.lit (.bool true)], args := [d1, d2, d3] }
  | _ => none }
def schedTimeRow : OpenClaim := { program := "ytfcdfbafgmegfaa", sum := "57b8ba7bfcf4327d5e23cca0711a950f0bd94df7591af78567f1756873b906bf", func := "hibernacle/hibernaclelaw27.SchedTime", spec := "schedTime", inPlace := ["internal/abi.NoEscape", "internal/bytealg.MakeNoZero"], unfollowed := true, recurses := true, apart := false }
def SchedTimeSaid : Prop := schedTimeRow.holds Try.pinned (OpenSpec.ofChange schedTimeSpec)

/-- ITS FALSE NEIGHBOUR: 'it returns false'. Refute it at one input. -/
def schedTimeWrong : ChangeSpec := { name := "schedTime", fn := fun _ => fun
  | [d1, d2, d3] => { results := [.lit (.bool false)], args := [d1, d2, d3] }
  | _ => none }
def SchedTimeWrongFalsely : Prop := schedTimeRow.holds Try.pinned (OpenSpec.ofChange schedTimeWrong)

/-- 'hibernaclelaw25.StateFlows': WHATEVER THE INPUT: true; the input reads as it did. -/
def stateFlowsSpec : ChangeSpec := { name := "stateFlows", fn := fun _ => fun
  | [d1, d2] => { results := [.lit (.bool true)], args := [d1, d2] }
  | _ => none }
def stateFlowsRow : OpenClaim := { program := "ytfcdfbafgmegfaa", sum := "57b8ba7bfcf4327d5e23cca0711a950f0bd94df7591af78567f1756873b906bf", func := "hibernacle/hibernaclelaw25.StateFlows", spec := "stateFlows", inPlace := ["internal/abi.NoEscape", "internal/bytealg.MakeNoZero"], unfollowed := true, recurses := true, apart := false }
def StateFlowsSaid : Prop := stateFlowsRow.holds Try.pinned (OpenSpec.ofChange stateFlowsSpec)

/-- ITS FALSE NEIGHBOUR: 'it returns false'. Refute it at one input. -/
def stateFlowsWrong : ChangeSpec := { name := "stateFlows", fn := fun _ => fun
  | [d1, d2] => { results := [.lit (.bool false)], args := [d1, d2] }
  | _ => none }
def StateFlowsWrongFalsely : Prop := stateFlowsRow.holds Try.pinned (OpenSpec.ofChange stateFlowsWrong)

/-- 'hibernaclelaw26.ProcApart': WHATEVER THE INPUT: true; the input reads as it did. -/
def procApartSpec : ChangeSpec := { name := "procApart", fn := fun _ => fun
  | [d1, d2, d3, d4, d5] => { results := [.lit (.bool true)], args := [d1, d2, d3, d4, d5] }
  | _ => none }
def procApartRow : OpenClaim := { program := "ytfcdfbafgmegfaa", sum := "57b8ba7bfcf4327d5e23cca0711a950f0bd94df7591af78567f1756873b906bf", func := "hibernacle/hibernaclelaw26.ProcApart", spec := "procApart", inPlace := ["internal/abi.NoEscape", "internal/bytealg.MakeNoZero"], unfollowed := true, recurses := true, apart := false }
def ProcApartSaid : Prop := procApartRow.holds Try.pinned (OpenSpec.ofChange procApartSpec)

/-- ITS FALSE NEIGHBOUR: 'it returns false'. Refute it at one input. -/
def procApartWrong : ChangeSpec := { name := "procApart", fn := fun _ => fun
  | [d1, d2, d3, d4, d5] => { results := [.lit (.bool false)], args := [d1, d2, d3, d4, d5] }
  | _ => none }
def ProcApartWrongFalsely : Prop := procApartRow.holds Try.pinned (OpenSpec.ofChange procApartWrong)

/-- 'hibernaclelaw25.StateSpoilt': WHATEVER THE INPUT: true; the input reads as it did. -/
def stateSpoiltSpec : ChangeSpec := { name := "stateSpoilt", fn := fun _ => fun
  | [d1, d2] => { results := [.lit (.bool true)], args := [d1, d2] }
  | _ => none }
def stateSpoiltRow : OpenClaim := { program := "ytfcdfbafgmegfaa", sum := "57b8ba7bfcf4327d5e23cca0711a950f0bd94df7591af78567f1756873b906bf", func := "hibernacle/hibernaclelaw25.StateSpoilt", spec := "stateSpoilt", inPlace := ["internal/abi.NoEscape", "internal/bytealg.MakeNoZero"], unfollowed := true, recurses := true, apart := false }
def StateSpoiltSaid : Prop := stateSpoiltRow.holds Try.pinned (OpenSpec.ofChange stateSpoiltSpec)

/-- ITS FALSE NEIGHBOUR: 'it returns false'. Refute it at one input. -/
def stateSpoiltWrong : ChangeSpec := { name := "stateSpoilt", fn := fun _ => fun
  | [d1, d2] => { results := [.lit (.bool false)], args := [d1, d2] }
  | _ => none }
def StateSpoiltWrongFalsely : Prop := stateSpoiltRow.holds Try.pinned (OpenSpec.ofChange stateSpoiltWrong)

/-- 'hibernaclelaw27.SchedStays': WHATEVER THE INPUT: true; the input reads as it did. -/
def schedStaysSpec : ChangeSpec := { name := "schedStays", fn := fun _ => fun
  | [d] => { results := [.lit (.bool true)], args := [d] }
  | _ => none }
def schedStaysRow : OpenClaim := { program := "ytfcdfbafgmegfaa", sum := "57b8ba7bfcf4327d5e23cca0711a950f0bd94df7591af78567f1756873b906bf", func := "hibernacle/hibernaclelaw27.SchedStays", spec := "schedStays", inPlace := ["internal/abi.NoEscape", "internal/bytealg.MakeNoZero"], unfollowed := true, recurses := true, apart := false }
def SchedStaysSaid : Prop := schedStaysRow.holds Try.pinned (OpenSpec.ofChange schedStaysSpec)

/-- ITS FALSE NEIGHBOUR: 'it returns false'. Refute it at one input. -/
def schedStaysWrong : ChangeSpec := { name := "schedStays", fn := fun _ => fun
  | [d] => { results := [.lit (.bool false)], args := [d] }
  | _ => none }
def SchedStaysWrongFalsely : Prop := schedStaysRow.holds Try.pinned (OpenSpec.ofChange schedStaysWrong)

/-- 'hibernaclelaw25.StateFrames': WHATEVER THE INPUT: true; the input reads as it did. -/
def stateFramesSpec : ChangeSpec := { name := "stateFrames", fn := fun _ => fun
  | [d] => { results := [.lit (.bool true)], args := [d] }
  | _ => none }
def stateFramesRow : OpenClaim := { program := "ytfcdfbafgmegfaa", sum := "57b8ba7bfcf4327d5e23cca0711a950f0bd94df7591af78567f1756873b906bf", func := "hibernacle/hibernaclelaw25.StateFrames", spec := "stateFrames", inPlace := ["internal/abi.NoEscape", "internal/bytealg.MakeNoZero"], unfollowed := true, recurses := true, apart := false }
def StateFramesSaid : Prop := stateFramesRow.holds Try.pinned (OpenSpec.ofChange stateFramesSpec)

/-- ITS FALSE NEIGHBOUR: 'it returns false'. Refute it at one input. -/
def stateFramesWrong : ChangeSpec := { name := "stateFrames", fn := fun _ => fun
  | [d] => { results := [.lit (.bool false)], args := [d] }
  | _ => none }
def StateFramesWrongFalsely : Prop := stateFramesRow.holds Try.pinned (OpenSpec.ofChange stateFramesWrong)

/-- 'hibernaclelaw25.StateChecks': WHATEVER THE INPUT: true; the input reads as it did. -/
def stateChecksSpec : ChangeSpec := { name := "stateChecks", fn := fun _ => fun
  | [d1, d2] => { results := [.lit (.bool true)], args := [d1, d2] }
  | _ => none }
def stateChecksRow : OpenClaim := { program := "ytfcdfbafgmegfaa", sum := "57b8ba7bfcf4327d5e23cca0711a950f0bd94df7591af78567f1756873b906bf", func := "hibernacle/hibernaclelaw25.StateChecks", spec := "stateChecks", inPlace := ["internal/abi.NoEscape", "internal/bytealg.MakeNoZero"], unfollowed := true, recurses := true, apart := false }
def StateChecksSaid : Prop := stateChecksRow.holds Try.pinned (OpenSpec.ofChange stateChecksSpec)

/-- ITS FALSE NEIGHBOUR: 'it returns false'. Refute it at one input. -/
def stateChecksWrong : ChangeSpec := { name := "stateChecks", fn := fun _ => fun
  | [d1, d2] => { results := [.lit (.bool false)], args := [d1, d2] }
  | _ => none }
def StateChecksWrongFalsely : Prop := stateChecksRow.holds Try.pinned (OpenSpec.ofChange stateChecksWrong)

/-- 'hibernaclelaw25.StatePipes': WHATEVER THE INPUT: true; the input reads as it did. -/
def statePipesSpec : ChangeSpec := { name := "statePipes", fn := fun _ => fun
  | [d1, d2] => { results := [.lit (.bool true)], args := [d1, d2] }
  | _ => none }
def statePipesRow : OpenClaim := { program := "ytfcdfbafgmegfaa", sum := "57b8ba7bfcf4327d5e23cca0711a950f0bd94df7591af78567f1756873b906bf", func := "hibernacle/hibernaclelaw25.StatePipes", spec := "statePipes", inPlace := ["internal/abi.NoEscape", "internal/bytealg.MakeNoZero"], unfollowed := true, recurses := true, apart := false }
def StatePipesSaid : Prop := statePipesRow.holds Try.pinned (OpenSpec.ofChange statePipesSpec)

/-- ITS FALSE NEIGHBOUR: 'it returns false'. Refute it at one input. -/
def statePipesWrong : ChangeSpec := { name := "statePipes", fn := fun _ => fun
  | [d1, d2] => { results := [.lit (.bool false)], args := [d1, d2] }
  | _ => none }
def StatePipesWrongFalsely : Prop := statePipesRow.holds Try.pinned (OpenSpec.ofChange statePipesWrong)

/-- 'hibernaclelaw25.StateSwept': WHATEVER THE INPUT: true; the input reads as it did. -/
def stateSweptSpec : ChangeSpec := { name := "stateSwept", fn := fun _ => fun
  | [d] => { results := [.lit (.bool true)], args := [d] }
  | _ => none }
def stateSweptRow : OpenClaim := { program := "ytfcdfbafgmegfaa", sum := "57b8ba7bfcf4327d5e23cca0711a950f0bd94df7591af78567f1756873b906bf", func := "hibernacle/hibernaclelaw25.StateSwept", spec := "stateSwept", inPlace := ["internal/abi.NoEscape", "internal/bytealg.MakeNoZero"], unfollowed := true, recurses := true, apart := false }
def StateSweptSaid : Prop := stateSweptRow.holds Try.pinned (OpenSpec.ofChange stateSweptSpec)

/-- ITS FALSE NEIGHBOUR: 'it returns false'. Refute it at one input. -/
def stateSweptWrong : ChangeSpec := { name := "stateSwept", fn := fun _ => fun
  | [d] => { results := [.lit (.bool false)], args := [d] }
  | _ => none }
def StateSweptWrongFalsely : Prop := stateSweptRow.holds Try.pinned (OpenSpec.ofChange stateSweptWrong)

/-- 'hibernaclelaw26.ProcSpawns': WHATEVER THE INPUT: true; the input reads as it did. -/
def procSpawnsSpec : ChangeSpec := { name := "procSpawns", fn := fun _ => fun
  | [d1, d2, d3, d4, d5] => { results := [.lit (.bool true)], args := [d1, d2, d3, d4, d5] }
  | _ => none }
def procSpawnsRow : OpenClaim := { program := "ytfcdfbafgmegfaa", sum := "57b8ba7bfcf4327d5e23cca0711a950f0bd94df7591af78567f1756873b906bf", func := "hibernacle/hibernaclelaw26.ProcSpawns", spec := "procSpawns", inPlace := ["internal/abi.NoEscape", "internal/bytealg.MakeNoZero"], unfollowed := true, recurses := true, apart := false }
def ProcSpawnsSaid : Prop := procSpawnsRow.holds Try.pinned (OpenSpec.ofChange procSpawnsSpec)

/-- ITS FALSE NEIGHBOUR: 'it returns false'. Refute it at one input. -/
def procSpawnsWrong : ChangeSpec := { name := "procSpawns", fn := fun _ => fun
  | [d1, d2, d3, d4, d5] => { results := [.lit (.bool false)], args := [d1, d2, d3, d4, d5] }
  | _ => none }
def ProcSpawnsWrongFalsely : Prop := procSpawnsRow.holds Try.pinned (OpenSpec.ofChange procSpawnsWrong)

/-- 'hibernaclelaw26.ProcFull': WHATEVER THE INPUT: true; the input reads as it did. -/
def procFullSpec : ChangeSpec := { name := "procFull", fn := fun _ => fun
  | [d1, d2] => { results := [.lit (.bool true)], args := [d1, d2] }
  | _ => none }
def procFullRow : OpenClaim := { program := "ytfcdfbafgmegfaa", sum := "57b8ba7bfcf4327d5e23cca0711a950f0bd94df7591af78567f1756873b906bf", func := "hibernacle/hibernaclelaw26.ProcFull", spec := "procFull", inPlace := ["internal/abi.NoEscape", "internal/bytealg.MakeNoZero"], unfollowed := true, recurses := true, apart := false }
def ProcFullSaid : Prop := procFullRow.holds Try.pinned (OpenSpec.ofChange procFullSpec)

/-- ITS FALSE NEIGHBOUR: 'it returns false'. Refute it at one input. -/
def procFullWrong : ChangeSpec := { name := "procFull", fn := fun _ => fun
  | [d1, d2] => { results := [.lit (.bool false)], args := [d1, d2] }
  | _ => none }
def ProcFullWrongFalsely : Prop := procFullRow.holds Try.pinned (OpenSpec.ofChange procFullWrong)

/-- 'hibernaclelaw26.ProcGrows': WHATEVER THE INPUT: true; the input reads as it did. -/
def procGrowsSpec : ChangeSpec := { name := "procGrows", fn := fun _ => fun
  | [d1, d2, d3] => { results := [.lit (.bool true)], args := [d1, d2, d3] }
  | _ => none }
def procGrowsRow : OpenClaim := { program := "ytfcdfbafgmegfaa", sum := "57b8ba7bfcf4327d5e23cca0711a950f0bd94df7591af78567f1756873b906bf", func := "hibernacle/hibernaclelaw26.ProcGrows", spec := "procGrows", inPlace := ["internal/abi.NoEscape", "internal/bytealg.MakeNoZero"], unfollowed := true, recurses := true, apart := false }
def ProcGrowsSaid : Prop := procGrowsRow.holds Try.pinned (OpenSpec.ofChange procGrowsSpec)

/-- ITS FALSE NEIGHBOUR: 'it returns false'. Refute it at one input. -/
def procGrowsWrong : ChangeSpec := { name := "procGrows", fn := fun _ => fun
  | [d1, d2, d3] => { results := [.lit (.bool false)], args := [d1, d2, d3] }
  | _ => none }
def ProcGrowsWrongFalsely : Prop := procGrowsRow.holds Try.pinned (OpenSpec.ofChange procGrowsWrong)

/-- 'hibernaclelaw26.ProcBack': WHATEVER THE INPUT: true; the input reads as it did. -/
def procBackSpec : ChangeSpec := { name := "procBack", fn := fun _ => fun
  | [d1, d2, d3, d4] => { results := [.lit (.bool true)], args := [d1, d2, d3, d4] }
  | _ => none }
def procBackRow : OpenClaim := { program := "ytfcdfbafgmegfaa", sum := "57b8ba7bfcf4327d5e23cca0711a950f0bd94df7591af78567f1756873b906bf", func := "hibernacle/hibernaclelaw26.ProcBack", spec := "procBack", inPlace := ["internal/abi.NoEscape", "internal/bytealg.MakeNoZero"], unfollowed := true, recurses := true, apart := false }
def ProcBackSaid : Prop := procBackRow.holds Try.pinned (OpenSpec.ofChange procBackSpec)

/-- ITS FALSE NEIGHBOUR: 'it returns false'. Refute it at one input. -/
def procBackWrong : ChangeSpec := { name := "procBack", fn := fun _ => fun
  | [d1, d2, d3, d4] => { results := [.lit (.bool false)], args := [d1, d2, d3, d4] }
  | _ => none }
def ProcBackWrongFalsely : Prop := procBackRow.holds Try.pinned (OpenSpec.ofChange procBackWrong)

/-- 'hibernaclelaw26.ProcLaid': WHATEVER THE INPUT: true; the input reads as it did. -/
def procLaidSpec : ChangeSpec := { name := "procLaid", fn := fun _ => fun
  | [d1, d2] => { results := [.lit (.bool true)], args := [d1, d2] }
  | _ => none }
def procLaidRow : OpenClaim := { program := "ytfcdfbafgmegfaa", sum := "57b8ba7bfcf4327d5e23cca0711a950f0bd94df7591af78567f1756873b906bf", func := "hibernacle/hibernaclelaw26.ProcLaid", spec := "procLaid", inPlace := ["internal/abi.NoEscape", "internal/bytealg.MakeNoZero"], unfollowed := true, recurses := true, apart := false }
def ProcLaidSaid : Prop := procLaidRow.holds Try.pinned (OpenSpec.ofChange procLaidSpec)

/-- ITS FALSE NEIGHBOUR: 'it returns false'. Refute it at one input. -/
def procLaidWrong : ChangeSpec := { name := "procLaid", fn := fun _ => fun
  | [d1, d2] => { results := [.lit (.bool false)], args := [d1, d2] }
  | _ => none }
def ProcLaidWrongFalsely : Prop := procLaidRow.holds Try.pinned (OpenSpec.ofChange procLaidWrong)

/- THE SECOND FORM. 'bulk': how many values and letters a reading holds, each counted each time it is reached (what is shared counts as often as it is met; a slice's spare places count too). A statement '..UptoSaid' is the law's where the arguments, and the package variables that the reading takes, are together of bulk at most 1048576: NARROWER than '..Said'. Prove '..Said' where nothing that the law and all that it calls make is longer than what came in: it says more and counts as full. Else prove '..UptoSaid'. A law counts once. -/
mutual
def uptoBulk {H : Type} : DataW H → Nat
  | .lit (.string bytes) => bytes.length + 1
  | .lit _ => 1
  | .nil => 1
  | .ptr d => uptoBulk d + 1
  | .slice elems spare => uptoBulkAll elems + uptoBulkAll spare + 1
  | .agg parts => uptoBulkAll parts + 1
  | .iface _ d => uptoBulk d + 1
  | .map entries => uptoBulkEntries entries + 1
  | .held _ => 1
def uptoBulkAll {H : Type} : List (DataW H) → Nat
  | [] => 0
  | d :: r => uptoBulk d + uptoBulkAll r
def uptoBulkEntries {H : Type} : List (Lit × DataW H) → Nat
  | [] => 0
  | x :: r => uptoBulkEntry x + uptoBulkEntries r
def uptoBulkEntry {H : Type} : Lit × DataW H → Nat
  | (.string bytes, d) => bytes.length + uptoBulk d + 1
  | (_, d) => uptoBulk d + 1
 end
def uptoSmall : (H : Type) → List (DataW H) → Bool := fun _ ds => decide (uptoBulkAll ds ≤ 1048576)
def OpenSpec.upto (s : _root_.Go.ChangeSpec) : _root_.Go.OpenSpec := { _root_.Go.OpenSpec.ofChange s with cond := some uptoSmall }

/-- 'hibernaclelaw27.SchedPicks', WHERE WHAT IT READS IS OF BULK AT MOST 1048576: true; the input reads as it did. -/
def schedPicksUptoRow : OpenClaim := { program := "ytfcdfbafgmegfaa", sum := "57b8ba7bfcf4327d5e23cca0711a950f0bd94df7591af78567f1756873b906bf", func := "hibernacle/hibernaclelaw27.SchedPicks", spec := "schedPicks", inPlace := ["internal/abi.NoEscape", "internal/bytealg.MakeNoZero"], unfollowed := true, recurses := true, apart := false, narrowed := true }
def SchedPicksUptoSaid : Prop := schedPicksUptoRow.holds Try.pinned (OpenSpec.upto schedPicksSpec)

/-- 'hibernaclelaw27.SchedTurns', WHERE WHAT IT READS IS OF BULK AT MOST 1048576: true; the input reads as it did. -/
def schedTurnsUptoRow : OpenClaim := { program := "ytfcdfbafgmegfaa", sum := "57b8ba7bfcf4327d5e23cca0711a950f0bd94df7591af78567f1756873b906bf", func := "hibernacle/hibernaclelaw27.SchedTurns", spec := "schedTurns", inPlace := ["internal/abi.NoEscape", "internal/bytealg.MakeNoZero"], unfollowed := true, recurses := true, apart := false, narrowed := true }
def SchedTurnsUptoSaid : Prop := schedTurnsUptoRow.holds Try.pinned (OpenSpec.upto schedTurnsSpec)

/-- 'hibernaclelaw27.SchedWakes', WHERE WHAT IT READS IS OF BULK AT MOST 1048576: true; the input reads as it did. -/
def schedWakesUptoRow : OpenClaim := { program := "ytfcdfbafgmegfaa", sum := "57b8ba7bfcf4327d5e23cca0711a950f0bd94df7591af78567f1756873b906bf", func := "hibernacle/hibernaclelaw27.SchedWakes", spec := "schedWakes", inPlace := ["internal/abi.NoEscape", "internal/bytealg.MakeNoZero"], unfollowed := true, recurses := true, apart := false, narrowed := true }
def SchedWakesUptoSaid : Prop := schedWakesUptoRow.holds Try.pinned (OpenSpec.upto schedWakesSpec)

/-- 'hibernaclelaw27.SchedTime', WHERE WHAT IT READS IS OF BULK AT MOST 1048576: true; the input reads as it did. -/
def schedTimeUptoRow : OpenClaim := { program := "ytfcdfbafgmegfaa", sum := "57b8ba7bfcf4327d5e23cca0711a950f0bd94df7591af78567f1756873b906bf", func := "hibernacle/hibernaclelaw27.SchedTime", spec := "schedTime", inPlace := ["internal/abi.NoEscape", "internal/bytealg.MakeNoZero"], unfollowed := true, recurses := true, apart := false, narrowed := true }
def SchedTimeUptoSaid : Prop := schedTimeUptoRow.holds Try.pinned (OpenSpec.upto schedTimeSpec)

/-- 'hibernaclelaw25.StateFlows', WHERE WHAT IT READS IS OF BULK AT MOST 1048576: true; the input reads as it did. -/
def stateFlowsUptoRow : OpenClaim := { program := "ytfcdfbafgmegfaa", sum := "57b8ba7bfcf4327d5e23cca0711a950f0bd94df7591af78567f1756873b906bf", func := "hibernacle/hibernaclelaw25.StateFlows", spec := "stateFlows", inPlace := ["internal/abi.NoEscape", "internal/bytealg.MakeNoZero"], unfollowed := true, recurses := true, apart := false, narrowed := true }
def StateFlowsUptoSaid : Prop := stateFlowsUptoRow.holds Try.pinned (OpenSpec.upto stateFlowsSpec)

/-- 'hibernaclelaw26.ProcApart', WHERE WHAT IT READS IS OF BULK AT MOST 1048576: true; the input reads as it did. -/
def procApartUptoRow : OpenClaim := { program := "ytfcdfbafgmegfaa", sum := "57b8ba7bfcf4327d5e23cca0711a950f0bd94df7591af78567f1756873b906bf", func := "hibernacle/hibernaclelaw26.ProcApart", spec := "procApart", inPlace := ["internal/abi.NoEscape", "internal/bytealg.MakeNoZero"], unfollowed := true, recurses := true, apart := false, narrowed := true }
def ProcApartUptoSaid : Prop := procApartUptoRow.holds Try.pinned (OpenSpec.upto procApartSpec)

/-- 'hibernaclelaw25.StateSpoilt', WHERE WHAT IT READS IS OF BULK AT MOST 1048576: true; the input reads as it did. -/
def stateSpoiltUptoRow : OpenClaim := { program := "ytfcdfbafgmegfaa", sum := "57b8ba7bfcf4327d5e23cca0711a950f0bd94df7591af78567f1756873b906bf", func := "hibernacle/hibernaclelaw25.StateSpoilt", spec := "stateSpoilt", inPlace := ["internal/abi.NoEscape", "internal/bytealg.MakeNoZero"], unfollowed := true, recurses := true, apart := false, narrowed := true }
def StateSpoiltUptoSaid : Prop := stateSpoiltUptoRow.holds Try.pinned (OpenSpec.upto stateSpoiltSpec)

/-- 'hibernaclelaw27.SchedStays', WHERE WHAT IT READS IS OF BULK AT MOST 1048576: true; the input reads as it did. -/
def schedStaysUptoRow : OpenClaim := { program := "ytfcdfbafgmegfaa", sum := "57b8ba7bfcf4327d5e23cca0711a950f0bd94df7591af78567f1756873b906bf", func := "hibernacle/hibernaclelaw27.SchedStays", spec := "schedStays", inPlace := ["internal/abi.NoEscape", "internal/bytealg.MakeNoZero"], unfollowed := true, recurses := true, apart := false, narrowed := true }
def SchedStaysUptoSaid : Prop := schedStaysUptoRow.holds Try.pinned (OpenSpec.upto schedStaysSpec)

/-- 'hibernaclelaw25.StateFrames', WHERE WHAT IT READS IS OF BULK AT MOST 1048576: true; the input reads as it did. -/
def stateFramesUptoRow : OpenClaim := { program := "ytfcdfbafgmegfaa", sum := "57b8ba7bfcf4327d5e23cca0711a950f0bd94df7591af78567f1756873b906bf", func := "hibernacle/hibernaclelaw25.StateFrames", spec := "stateFrames", inPlace := ["internal/abi.NoEscape", "internal/bytealg.MakeNoZero"], unfollowed := true, recurses := true, apart := false, narrowed := true }
def StateFramesUptoSaid : Prop := stateFramesUptoRow.holds Try.pinned (OpenSpec.upto stateFramesSpec)

/-- 'hibernaclelaw25.StateChecks', WHERE WHAT IT READS IS OF BULK AT MOST 1048576: true; the input reads as it did. -/
def stateChecksUptoRow : OpenClaim := { program := "ytfcdfbafgmegfaa", sum := "57b8ba7bfcf4327d5e23cca0711a950f0bd94df7591af78567f1756873b906bf", func := "hibernacle/hibernaclelaw25.StateChecks", spec := "stateChecks", inPlace := ["internal/abi.NoEscape", "internal/bytealg.MakeNoZero"], unfollowed := true, recurses := true, apart := false, narrowed := true }
def StateChecksUptoSaid : Prop := stateChecksUptoRow.holds Try.pinned (OpenSpec.upto stateChecksSpec)

/-- 'hibernaclelaw25.StatePipes', WHERE WHAT IT READS IS OF BULK AT MOST 1048576: true; the input reads as it did. -/
def statePipesUptoRow : OpenClaim := { program := "ytfcdfbafgmegfaa", sum := "57b8ba7bfcf4327d5e23cca0711a950f0bd94df7591af78567f1756873b906bf", func := "hibernacle/hibernaclelaw25.StatePipes", spec := "statePipes", inPlace := ["internal/abi.NoEscape", "internal/bytealg.MakeNoZero"], unfollowed := true, recurses := true, apart := false, narrowed := true }
def StatePipesUptoSaid : Prop := statePipesUptoRow.holds Try.pinned (OpenSpec.upto statePipesSpec)

/-- 'hibernaclelaw25.StateSwept', WHERE WHAT IT READS IS OF BULK AT MOST 1048576: true; the input reads as it did. -/
def stateSweptUptoRow : OpenClaim := { program := "ytfcdfbafgmegfaa", sum := "57b8ba7bfcf4327d5e23cca0711a950f0bd94df7591af78567f1756873b906bf", func := "hibernacle/hibernaclelaw25.StateSwept", spec := "stateSwept", inPlace := ["internal/abi.NoEscape", "internal/bytealg.MakeNoZero"], unfollowed := true, recurses := true, apart := false, narrowed := true }
def StateSweptUptoSaid : Prop := stateSweptUptoRow.holds Try.pinned (OpenSpec.upto stateSweptSpec)

/-- 'hibernaclelaw26.ProcSpawns', WHERE WHAT IT READS IS OF BULK AT MOST 1048576: true; the input reads as it did. -/
def procSpawnsUptoRow : OpenClaim := { program := "ytfcdfbafgmegfaa", sum := "57b8ba7bfcf4327d5e23cca0711a950f0bd94df7591af78567f1756873b906bf", func := "hibernacle/hibernaclelaw26.ProcSpawns", spec := "procSpawns", inPlace := ["internal/abi.NoEscape", "internal/bytealg.MakeNoZero"], unfollowed := true, recurses := true, apart := false, narrowed := true }
def ProcSpawnsUptoSaid : Prop := procSpawnsUptoRow.holds Try.pinned (OpenSpec.upto procSpawnsSpec)

/-- 'hibernaclelaw26.ProcFull', WHERE WHAT IT READS IS OF BULK AT MOST 1048576: true; the input reads as it did. -/
def procFullUptoRow : OpenClaim := { program := "ytfcdfbafgmegfaa", sum := "57b8ba7bfcf4327d5e23cca0711a950f0bd94df7591af78567f1756873b906bf", func := "hibernacle/hibernaclelaw26.ProcFull", spec := "procFull", inPlace := ["internal/abi.NoEscape", "internal/bytealg.MakeNoZero"], unfollowed := true, recurses := true, apart := false, narrowed := true }
def ProcFullUptoSaid : Prop := procFullUptoRow.holds Try.pinned (OpenSpec.upto procFullSpec)

/-- 'hibernaclelaw26.ProcGrows', WHERE WHAT IT READS IS OF BULK AT MOST 1048576: true; the input reads as it did. -/
def procGrowsUptoRow : OpenClaim := { program := "ytfcdfbafgmegfaa", sum := "57b8ba7bfcf4327d5e23cca0711a950f0bd94df7591af78567f1756873b906bf", func := "hibernacle/hibernaclelaw26.ProcGrows", spec := "procGrows", inPlace := ["internal/abi.NoEscape", "internal/bytealg.MakeNoZero"], unfollowed := true, recurses := true, apart := false, narrowed := true }
def ProcGrowsUptoSaid : Prop := procGrowsUptoRow.holds Try.pinned (OpenSpec.upto procGrowsSpec)

/-- 'hibernaclelaw26.ProcBack', WHERE WHAT IT READS IS OF BULK AT MOST 1048576: true; the input reads as it did. -/
def procBackUptoRow : OpenClaim := { program := "ytfcdfbafgmegfaa", sum := "57b8ba7bfcf4327d5e23cca0711a950f0bd94df7591af78567f1756873b906bf", func := "hibernacle/hibernaclelaw26.ProcBack", spec := "procBack", inPlace := ["internal/abi.NoEscape", "internal/bytealg.MakeNoZero"], unfollowed := true, recurses := true, apart := false, narrowed := true }
def ProcBackUptoSaid : Prop := procBackUptoRow.holds Try.pinned (OpenSpec.upto procBackSpec)

/-- 'hibernaclelaw26.ProcLaid', WHERE WHAT IT READS IS OF BULK AT MOST 1048576: true; the input reads as it did. -/
def procLaidUptoRow : OpenClaim := { program := "ytfcdfbafgmegfaa", sum := "57b8ba7bfcf4327d5e23cca0711a950f0bd94df7591af78567f1756873b906bf", func := "hibernacle/hibernaclelaw26.ProcLaid", spec := "procLaid", inPlace := ["internal/abi.NoEscape", "internal/bytealg.MakeNoZero"], unfollowed := true, recurses := true, apart := false, narrowed := true }
def ProcLaidUptoSaid : Prop := procLaidUptoRow.holds Try.pinned (OpenSpec.upto procLaidSpec)

end Rows
end Go.Proofs.Ytfcdfbafgmegfaa
