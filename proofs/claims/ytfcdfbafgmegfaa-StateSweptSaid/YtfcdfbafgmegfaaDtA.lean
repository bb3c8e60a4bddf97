/-
  THE DATA, PART A: the program's records as plain ones, and as values of the symbolic layer, cell by cell.
-/
import Derived.Test.YtfcdfbafgmegfaaSy4
import Derived.IntWalk
namespace Go.Hb
open Go.RowKit

/-- A process: its numbers and its bools, by their cells: Pid 0, Parent 1, State 2, R 3.., PC 19, Space 20.., Fds 68.., Mask 92, Code 93, Why 94, N 95. -/
structure Prc where
  n : Nat → Int
  b : Nat → Bool

def Prc.e (p : Prc) : List V := [
  .int .i64 (p.n 0), .int .i64 (p.n 1), .int .i64 (p.n 2), .int .u32 (p.n 3), .int .u32 (p.n 4), .int .u32 (p.n 5), .int .u32 (p.n 6), .int .u32 (p.n 7),
  .int .u32 (p.n 8), .int .u32 (p.n 9), .int .u32 (p.n 10), .int .u32 (p.n 11), .int .u32 (p.n 12), .int .u32 (p.n 13), .int .u32 (p.n 14), .int .u32 (p.n 15),
  .int .u32 (p.n 16), .int .u32 (p.n 17), .int .u32 (p.n 18), .int .u32 (p.n 19), .bool (p.b 20), .bool (p.b 21), .int .i64 (p.n 22), .bool (p.b 23),
  .bool (p.b 24), .int .i64 (p.n 25), .bool (p.b 26), .bool (p.b 27), .int .i64 (p.n 28), .bool (p.b 29), .bool (p.b 30), .int .i64 (p.n 31),
  .bool (p.b 32), .bool (p.b 33), .int .i64 (p.n 34), .bool (p.b 35), .bool (p.b 36), .int .i64 (p.n 37), .bool (p.b 38), .bool (p.b 39),
  .int .i64 (p.n 40), .bool (p.b 41), .bool (p.b 42), .int .i64 (p.n 43), .bool (p.b 44), .bool (p.b 45), .int .i64 (p.n 46), .bool (p.b 47),
  .bool (p.b 48), .int .i64 (p.n 49), .bool (p.b 50), .bool (p.b 51), .int .i64 (p.n 52), .bool (p.b 53), .bool (p.b 54), .int .i64 (p.n 55),
  .bool (p.b 56), .bool (p.b 57), .int .i64 (p.n 58), .bool (p.b 59), .bool (p.b 60), .int .i64 (p.n 61), .bool (p.b 62), .bool (p.b 63),
  .int .i64 (p.n 64), .bool (p.b 65), .bool (p.b 66), .int .i64 (p.n 67), .int .i64 (p.n 68), .int .i64 (p.n 69), .int .i64 (p.n 70), .int .i64 (p.n 71),
  .int .i64 (p.n 72), .int .i64 (p.n 73), .int .i64 (p.n 74), .int .i64 (p.n 75), .int .i64 (p.n 76), .int .i64 (p.n 77), .int .i64 (p.n 78), .int .i64 (p.n 79),
  .int .i64 (p.n 80), .int .i64 (p.n 81), .int .i64 (p.n 82), .int .i64 (p.n 83), .int .i64 (p.n 84), .int .i64 (p.n 85), .int .i64 (p.n 86), .int .i64 (p.n 87),
  .int .i64 (p.n 88), .int .i64 (p.n 89), .int .i64 (p.n 90), .int .i64 (p.n 91), .bool (p.b 92), .int .u32 (p.n 93), .int .i64 (p.n 94), .int .u64 (p.n 95)]

/-- A pipe; or a block and its bytes. -/
structure Num where
  n : Int
  s : ByteArray
def Num.e (p : Num) : List V := [.int .i64 p.n, .str p.s]

/-- A row: as many as n. -/
structure Sq (α : Type) where
  n : Nat
  f : Nat → α

def strs (l : Sq ByteArray) : V := .seq 1 l.n fun i => [.str (l.f i)]
def nums (l : Sq Num) : V := .seq 2 l.n fun i => (l.f i).e
def prcs (l : Sq Prc) : V := .seq 96 l.n fun i => (l.f i).e
def ints (l : Sq Int) : V := .seq 1 l.n fun i => [.int .i64 (l.f i)]
structure Drv where
  blocks : Sq ByteArray
  pending : Sq Num
  left : Int
def Drv.e (d : Drv) : List V := [strs d.blocks, nums d.pending, .int .i64 d.left]

structure Mac where
  clock : Int
  quantum : Int
  cur : Int
  left : Int
  frames : Sq ByteArray
  procs : Sq Prc
  next : Int
  init : ByteArray
  pipes : Sq Num
  newpipe : Int
  inn : ByteArray
  endd : Bool
  told : Int
  drive : Drv
  dirty : Sq Num
def Mac.e (m : Mac) : List V := [.int .u64 m.clock, .int .i64 m.quantum, .int .i64 m.cur, .int .i64 m.left, strs m.frames, prcs m.procs, .int .i64 m.next, .str m.init, nums m.pipes, .int .i64 m.newpipe, .str m.inn, .bool m.endd, .int .u64 m.told,
  strs m.drive.blocks, nums m.drive.pending, .int .i64 m.drive.left, nums m.dirty]
def numEq (p q : Num) : Bool := (p.n == q.n) && (strEq p.s q.s && true)

/-- A process's pages, and its open files. -/
def Prc.space (p : Prc) : List V := [.bool (p.b 20), .bool (p.b 21), .int .i64 (p.n 22), .bool (p.b 23), .bool (p.b 24), .int .i64 (p.n 25), .bool (p.b 26), .bool (p.b 27), .int .i64 (p.n 28), .bool (p.b 29), .bool (p.b 30), .int .i64 (p.n 31), .bool (p.b 32), .bool (p.b 33), .int .i64 (p.n 34), .bool (p.b 35), .bool (p.b 36), .int .i64 (p.n 37), .bool (p.b 38), .bool (p.b 39), .int .i64 (p.n 40), .bool (p.b 41), .bool (p.b 42), .int .i64 (p.n 43), .bool (p.b 44), .bool (p.b 45), .int .i64 (p.n 46), .bool (p.b 47), .bool (p.b 48), .int .i64 (p.n 49), .bool (p.b 50), .bool (p.b 51), .int .i64 (p.n 52), .bool (p.b 53), .bool (p.b 54), .int .i64 (p.n 55), .bool (p.b 56), .bool (p.b 57), .int .i64 (p.n 58), .bool (p.b 59), .bool (p.b 60), .int .i64 (p.n 61), .bool (p.b 62), .bool (p.b 63), .int .i64 (p.n 64), .bool (p.b 65), .bool (p.b 66), .int .i64 (p.n 67)]
def Prc.fds (p : Prc) : List V := [.int .i64 (p.n 68), .int .i64 (p.n 69), .int .i64 (p.n 70), .int .i64 (p.n 71), .int .i64 (p.n 72), .int .i64 (p.n 73), .int .i64 (p.n 74), .int .i64 (p.n 75), .int .i64 (p.n 76), .int .i64 (p.n 77), .int .i64 (p.n 78), .int .i64 (p.n 79), .int .i64 (p.n 80), .int .i64 (p.n 81), .int .i64 (p.n 82), .int .i64 (p.n 83), .int .i64 (p.n 84), .int .i64 (p.n 85), .int .i64 (p.n 86), .int .i64 (p.n 87), .int .i64 (p.n 88), .int .i64 (p.n 89), .int .i64 (p.n 90), .int .i64 (p.n 91)]
def Prc.pte (p : Prc) (i : Nat) : List V := [.bool (p.b (20 + 3 * i)), .bool (p.b (21 + 3 * i)), .int .i64 (p.n (22 + 3 * i))]
def Prc.fd (p : Prc) (i : Nat) : List V := [.int .i64 (p.n (68 + 3 * i)), .int .i64 (p.n (69 + 3 * i)), .int .i64 (p.n (70 + 3 * i))]
def pteNone (p : Prc) (i : Nat) : Bool := (p.b (20 + 3 * i) == false) && ((p.b (21 + 3 * i) == false) && ((p.n (22 + 3 * i) == 0) && true))
def pte0 : List V := [.tt false, .tt false, .int .i64 0]
theorem pte_ok (p : Prc) {i : Nat} (h : i < 16) : (p.space.drop (i * 3)).take 3 = p.pte i := by
  have : i = 0 ∨ i = 1 ∨ i = 2 ∨ i = 3 ∨ i = 4 ∨ i = 5 ∨ i = 6 ∨ i = 7 ∨ i = 8 ∨ i = 9 ∨ i = 10 ∨ i = 11 ∨ i = 12 ∨ i = 13 ∨ i = 14 ∨ i = 15 := by omega
  rcases this with rfl | rfl | rfl | rfl | rfl | rfl | rfl | rfl | rfl | rfl | rfl | rfl | rfl | rfl | rfl | rfl <;> rfl
theorem fd_ok (p : Prc) {i : Nat} (h : i < 8) : (p.fds.drop (i * 3)).take 3 = p.fd i := by
  have : i = 0 ∨ i = 1 ∨ i = 2 ∨ i = 3 ∨ i = 4 ∨ i = 5 ∨ i = 6 ∨ i = 7 := by omega
  rcases this with rfl | rfl | rfl | rfl | rfl | rfl | rfl | rfl <;> rfl

end Go.Hb
