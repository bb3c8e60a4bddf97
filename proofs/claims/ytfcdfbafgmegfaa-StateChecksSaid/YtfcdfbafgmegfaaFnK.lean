/-
  THE FUNCTIONS, PART K: layer 27's example; who goes on of any machine is the document's.
-/
import Derived.Test.YtfcdfbafgmegfaaFnJ
import Derived.Test.YtfcdfbafgmegfaaSpR
import Derived.Test.YtfcdfbafgmegfaaWkG2
namespace Go.Hb
open Go.RowKit Go.Proofs

set_option maxRecDepth 100000
/-- Layer 25's small machine. -/
def zero128 : ByteArray := ⟨(Lib.repeatL [0] 128).toArray⟩
def bareM : Mac := { clock := 0, quantum := 3, cur := 0, left := 0, frames := ⟨4, fun _ => zero128⟩, procs := ⟨0, fun _ => rdy 0⟩, next := 1, init := ⟨#[]⟩, pipes := ⟨0, fun _ => num0⟩, newpipe := 1, inn := ⟨#[]⟩, endd := false, told := 0, drive := drvOf (fmtB 6), dirty := ⟨0, fun _ => num0⟩ }

theorem bare_spec : SpecD Try.prog 31 [] (.agg bareM.e) := by
  refine (specE_of (Try.func31) (by kernel_rfl) (by kernel_rfl) (by kernel_rfl) ?_).le
  refine w31_0 (fmtB 6) (drvOf (fmtB 6)) zero128 ⟨fmt17_spec, fmt16_spec (fmtB 6) (by decide) (by decide) (fun j _ => fmtB_size 6 (by omega) j), repeat_spec ⟨#[0]⟩ 128 (by omega) (by omega) (by decide) (by decide), ?_⟩
  refine .agg (.cons (.refl _) <| .cons (.refl _) <| .cons (.refl _) <| .cons (.refl _) <| .cons (.seq rfl fun i hi => ?_) <| .cons (Le.nil 96 _) <| .cons (.refl _) <| .cons (.refl _) <| .cons (Le.nil 2 _) <| .cons (.refl _) <| .cons (.refl _) <|
    .cons (Le.tt false) <| .cons (.refl _) <| .cons (.refl _) <| .cons (.refl _) <| .cons (.refl _) <| .cons (Le.nil 2 _) .nil)
  have : i = 0 ∨ i = 1 ∨ i = 2 ∨ i = 3 := by omega
  rcases this with rfl | rfl | rfl | rfl <;> rfl

def two : Sq Prc := ⟨2, fun i => rdy (i + 1)⟩
end Go.Hb
