/-
  slices.Backward over a row of writes: its two functions, for every body of a loop (by the kit's laws on ranges over functions).
-/
import Derived.RangeFuncNested
import Derived.RangeFuncBound
import Derived.RangeFuncCalls
import Derived.RangeFuncLeaves
import Derived.Shelf.Abstract
import Derived.Shelf.RegionOpen
import Derived.WalkKit
import Derived.OwnWalkIn
import Derived.TacticsInMore
import Derived.LoopNIn
import Derived.LoopIn
import Derived.Test.YtfcdfbafgmegfaaChecked
import Derived.Test.YtfcdfbafgmegfaaDtA
namespace Go.Proofs
open Go.RowKit Go.Shelf

attribute [local go_sem] Oper.semAt_some

theorem Try.back_in (F : Fence) (n : Nat) (h5 : F.fn 203) (hro : F.round = none) (a : Option Addr) (len cap : Nat) (w : World) :
    CallsIn F n Try.prog 203 #[.slice a len cap] w fun e w' => e = .returned (.func (.func 207) #[] #[.pointer (some ⟨w.heap.size, 0, none⟩)]) ∧ w' = w.alloc (.cells #[.slice a len cap] 26) := by
  refine callsIn_of_wp Try.func203 rfl h5 ?_ hro
  simp only [Try.ntmps203, List.size_toArray, List.length_cons, List.length_nil, Nat.reduceAdd, Nat.reduceSub, Array.replicate_succ, Array.replicate_zero, List.push_toArray, List.append_toArray, List.nil_append, List.cons_append]
  gi_wp2
  go_ret
  exact ⟨rfl, rfl⟩

def upTo {α : Type} (f : Nat → α) (k : Nat) : List α := (List.range k).map f
theorem upTo_succ {α : Type} (f : Nat → α) (k : Nat) : upTo f (k + 1) = upTo f k ++ [f k] := by simp [upTo, List.range_succ]
theorem upTo_length {α : Type} (f : Nat → α) (k : Nat) : (upTo f k).length = k := by simp [upTo]

/-- A write, as yield is handed it. -/
def encW (x : Nat × Go.Hb.Num) : Array Value := #[.int .i64 (x.1 : Int), .agg #[.int .i64 x.2.n, .string x.2.s]]
def rev (f : Nat → Go.Hb.Num) (len k : Nat) : Nat × Go.Hb.Num := (len - 1 - k, f (len - 1 - k))

set_option maxRecDepth 100000 in
set_option maxHeartbeats 4000000 in
theorem Try.back1_in (F : Fence) (n : Nat) (h7 : F.fn 207) (hro : F.round = none) (hn : 1 ≤ n) (l Bs n₀ b off len cap : Nat) (f : Nat → Go.Hb.Num) (hreach : len ≤ 140737488355328) (hb : b < n₀) (J Jx : List (Nat × Go.Hb.Num) → World → Prop)
    (hY : ∀ pre x W, J pre W → pre.length < len → YieldAt F (n - 1) Try.prog l (encW x) W fun e W' =>
      (e = .returned (.bool true) ∧ J (pre ++ [x]) W' ∧ Below n₀ W W') ∨ (e = .returned (.bool false) ∧ Jx (pre ++ [x]) W'))
    (W : World) (hBs0 : Bs < n₀) (hBs : W.cell? ⟨Bs, 0, none⟩ = some (.slice (some ⟨b, off, none⟩) len cap)) (hc : ∀ j, j < len → W.cell? ⟨b, off + j * 2, none⟩ = some (.int .i64 (f j).n) ∧ W.cell? ⟨b, off + j * 2 + 1, none⟩ = some (.string (f j).s)) (h0 : J [] W) :
    CallsIn F n Try.prog 207 #[.func (.yield l) #[] #[], .pointer (some ⟨Bs, 0, none⟩)] W fun e W' => (∃ v, e = .returned v) ∧
      ((∃ ys, ys = upTo (rev f len) len ∧ J ys W') ∨ (∃ pre, (∃ k, k ≤ len ∧ pre = upTo (rev f len) k) ∧ Jx pre W')) := by
  refine callsIn_of_wp Try.func207 rfl h7 ?_ hro
  simp only [Try.ntmps207, List.size_toArray, List.length_cons, List.length_nil, Nat.reduceAdd, Nat.reduceSub, Array.replicate_succ, Array.replicate_zero, List.push_toArray, List.append_toArray, List.nil_append, List.cons_append]
  gi_wp2
  gi_loopw [3] (fun i wr => ∃ k : Nat, k ≤ len ∧ i = .int .i64 ((len : Int) - 1 - k) ∧ J (upTo (rev f len) k) wr ∧ Below n₀ W wr)
    (fun i _ => (intOf i + 1).toNat)
  case atStart => exact ⟨0, Nat.zero_le _, by simp, h0, Below.refl _ _⟩
  case round =>
    obtain ⟨k, hk, rfl, hJs, hnx⟩ := hrel
    have hBs' : wr.cell? ⟨Bs, 0, none⟩ = some (.slice (some ⟨b, off, none⟩) len cap) := (hnx.cell (p := ⟨Bs, 0, none⟩) hBs0).trans hBs
    by_cases hlt : k < len
    · obtain ⟨fn, tmps, assign, body, hy, hR⟩ := hY _ (rev f len k) wr hJs (by rw [upTo_length]; exact hlt)
      dsimp only [encW, rev] at hy
      have hi : (len : Int) - 1 - k = ((len - 1 - k : Nat) : Int) := by omega
      rw [hi]
      generalize hq : len - 1 - k = q at hy hi ⊢
      have hql : q < len := by omega
      have hc0 := (hnx.cell (p := ⟨b, off + q * 2, none⟩) hb).trans (hc q hql).1
      have hc1 := (hnx.cell (p := ⟨b, off + q * 2 + 1, none⟩) hb).trans (hc q hql).2
      gi_wp2
      refine hR.mono ?_
      have hup : upTo (rev f len) (k + 1) = upTo (rev f len) k ++ [(q, f q)] := by rw [upTo_succ]; simp only [rev, hq]
      rintro e W3 (⟨rfl, hJ3, hk3⟩ | ⟨rfl, hJx3⟩)
      · gi_wp2
        go_roundw
        case rel => exact ⟨k + 1, by omega, by simp; omega, by rw [hup]; simpa only [rev, hq] using hJ3, hnx.trans hk3⟩
        case measure => simp [intOf]
      · gi_wp2
        refine bodyPost_ret (results_none rfl _ _ _) rfl ?_
        exact ⟨⟨_, rfl⟩, .inr ⟨_, ⟨k + 1, by omega, rfl⟩, by rw [hup]; simpa only [rev, hq] using hJx3⟩⟩
    · obtain rfl : k = len := by omega
      gi_wp2
      go_end0
      exact ⟨⟨_, rfl⟩, .inl ⟨_, rfl, hJs⟩⟩

set_option maxHeartbeats 1000000 in
theorem Try.back1_nil_in (F : Fence) (n : Nat) (h7 : F.fn 207) (hro : F.round = none) (l Bs : Nat) (a : Option Addr) (cap : Nat) (J : List (Nat × Go.Hb.Num) → World → Prop) (W : World) (hBs : W.cell? ⟨Bs, 0, none⟩ = some (.slice a 0 cap)) (h0 : J [] W) :
    CallsIn F n Try.prog 207 #[.func (.yield l) #[] #[], .pointer (some ⟨Bs, 0, none⟩)] W fun e W' => (∃ v, e = .returned v) ∧ J [] W' := by
  refine callsIn_of_wp Try.func207 rfl h7 ?_ hro
  simp only [Try.ntmps207, List.size_toArray, List.length_cons, List.length_nil, Nat.reduceAdd, Nat.reduceSub, Array.replicate_succ, Array.replicate_zero, List.push_toArray, List.append_toArray, List.nil_append, List.cons_append]
  gi_wp2
  gi_loopw [3] (fun i wr => i = .int .i64 (-1) ∧ J [] wr) (fun _ _ => 0)
  case atStart => exact ⟨rfl, h0⟩
  case round =>
    obtain ⟨rfl, hJs⟩ := hrel
    gi_wp2
    go_end0
    exact ⟨⟨_, rfl⟩, hJs⟩

/-- The slice value sv holds the writes f 0, .., f (len - 1), in a block below n₀. -/
def HoldsW (n₀ : Nat) (W : World) (sv : Value) (len : Nat) (f : Nat → Go.Hb.Num) : Prop :=
  (len = 0 ∧ ∃ a c, sv = .slice a 0 c) ∨ ∃ b off cap, sv = .slice (some ⟨b, off, none⟩) len cap ∧ b < n₀ ∧ ∀ j, j < len → W.cell? ⟨b, off + j * 2, none⟩ = some (.int .i64 (f j).n) ∧ W.cell? ⟨b, off + j * 2 + 1, none⟩ = some (.string (f j).s)
theorem HoldsW.below {n₀ : Nat} {A B : World} (h : Below n₀ A B) {sv : Value} {len : Nat} {f : Nat → Go.Hb.Num} : HoldsW n₀ A sv len f → HoldsW n₀ B sv len f
  | .inl e => .inl e
  | .inr ⟨b, off, cap, e, hb, hc⟩ => .inr ⟨b, off, cap, e, hb, fun j hj => ⟨(h.cell (p := ⟨b, off + j * 2, none⟩) hb).trans (hc j hj).1, (h.cell (p := ⟨b, off + j * 2 + 1, none⟩) hb).trans (hc j hj).2⟩⟩

theorem Try.back_stops (F : Fence) (n : Nat) (h7 : F.fn 207) (hro : F.round = none) (hn : 1 ≤ n) (Bs n₀ : Nat) (sv : Value) (len : Nat) (f : Nat → Go.Hb.Num) (hreach : len ≤ 140737488355328) (w : World) (hBs0 : Bs < n₀) (hBs : Bs < w.heap.size) (hn₀ : n₀ ≤ w.heap.size)
    (hc : w.cell? ⟨Bs, 0, none⟩ = some sv) (hI : HoldsW n₀ w sv len f) :
    SeqStopsK F n Try.prog 207 #[.pointer (some ⟨Bs, 0, none⟩)] encW (Below n₀) (fun ys => ys = upTo (rev f len) len) (fun pre => ∃ k, k ≤ len ∧ pre = upTo (rev f len) k) len w := fun l J Jx W hW _ _ hY h0 => by
  have hc' := (hW.cell (p := ⟨Bs, 0, none⟩) hBs).trans hc
  rcases hI.below (hW.mono hn₀) with ⟨rfl, a, c, rfl⟩ | ⟨b, off, cap, rfl, hb, hcs⟩
  · exact (Try.back1_nil_in F n h7 hro l Bs a c J W hc' h0).mono fun e W' ⟨he, hj⟩ => ⟨he, .inl ⟨_, rfl, hj⟩⟩
  · exact Try.back1_in F n h7 hro hn l Bs n₀ b off len cap f hreach hb J Jx hY W hBs0 hc' hcs h0
end Go.Proofs
