/-
  THE PLAIN LAW of 'StateSpoilt': what a machine that may be must be; one thing wrong, and it may not be.
-/
import Derived.Test.YtfcdfbafgmegfaaLaC
namespace Go.Hb
open Go.RowKit Go.Proofs

/-- What Check asks, point by point. -/
structure Whole (m : Mac) : Prop where
  fine : Fine m
  pipes : m.pipes.n ≤ 64
  right : rightK m m.pipes.n 0 = true
  inn : m.inn.size ≤ 65536
  init : m.init.size ≤ 128
  disk : diskF m = 0
/-- A row with one more at its end. -/
def Sq.snoc {α : Type} (l : Sq α) (x : α) : Sq α := ⟨l.n + 1, fun j => if j < l.n then l.f j else x⟩
end Go.Hb
