/-
  PLAIN FACTS on pipes: opening one, bytes in, bytes out.
-/
import Derived.Test.YtfcdfbafgmegfaaFnR
namespace Go.Hb
open Go.RowKit Go.Proofs

theorem cut_size (b : ByteArray) (i j : Nat) (h : j ≤ b.size) : (b.extract i j).size = j - i := by rw [ByteArray.size_extract]; omega

def openM (m : Mac) : Mac := { m with pipes := ⟨m.pipes.n + 1, fun j => if j < m.pipes.n then m.pipes.f j else ⟨m.newpipe, ⟨#[]⟩⟩⟩, newpipe := IntKind.i64.wrap (m.newpipe + 1) }
def withM (m : Mac) (i : Nat) (s : ByteArray) : Mac := { m with pipes := ⟨m.pipes.n, fun j => if j = i then ⟨(m.pipes.f i).n, s⟩ else m.pipes.f j⟩ }
def roomN (was s : ByteArray) : Nat := min s.size (64 - was.size)
def takeN (was : ByteArray) (n : Int) : Nat := min n.toNat was.size
def putI (m : Mac) (ix : Int) (s : ByteArray) : Mac × Nat :=
  if ix < 0 then (m, 0) else (withM m ix.toNat ((m.pipes.f ix.toNat).s ++ s.extract 0 (roomN (m.pipes.f ix.toNat).s s)), roomN (m.pipes.f ix.toNat).s s)
def putM (m : Mac) (id : Int) (s : ByteArray) : Mac × Nat := putI m (pipeI m id) s
def takeI (m : Mac) (ix : Int) (n : Int) : Mac × ByteArray :=
  if ix < 0 then (m, ⟨#[]⟩) else (withM m ix.toNat ((m.pipes.f ix.toNat).s.extract (takeN (m.pipes.f ix.toNat).s n) (m.pipes.f ix.toNat).s.size), (m.pipes.f ix.toNat).s.extract 0 (takeN (m.pipes.f ix.toNat).s n))
def takeM (m : Mac) (id n : Int) : Mac × ByteArray := takeI m (pipeI m id) n

theorem roomN_max (was s : ByteArray) (h : was.size ≤ 140737488355328) :
    (if (if (0 : Int) > IntKind.i64.wrap ((64 : Int) - (was.size : Int)) then (0 : Int) else IntKind.i64.wrap ((64 : Int) - (was.size : Int))) < (s.size : Int) then (if (0 : Int) > IntKind.i64.wrap ((64 : Int) - (was.size : Int)) then (0 : Int) else IntKind.i64.wrap ((64 : Int) - (was.size : Int))) else (s.size : Int)) = (roomN was s : Int) := by
  rw [IntWalk.i64_in _ (by omega)]
  unfold roomN
  split <;> split <;> omega
end Go.Hb
