/-
  THE SYMBOLIC LAYER, PART A: values known in part ('V'), what they say of a Go value in a memory ('CD': data; 'CV': with the call's own boxes), and how that stays true while other memory changes.
-/
import Derived.WalkKit
import Derived.Maps.AppendAt
import Derived.Deep.AppendLies
import Derived.Deep.Draws
import Derived.Orders
namespace Go.Hb
open Go.RowKit

/-- What is known of a Go value. 'seq sz n f': a slice of n elements (sz cells each) that nobody writes; 'rfp l off': a pointer into cells that nobody writes; 'ptr', 'row', 'vec', 'vptr', 'map': into the call's own boxes, by their keys; 'elp': a pointer to an element of a 'seq'. -/
inductive V where
  | junk
  | int (k : IntKind) (n : Int)
  | bool (b : Bool)
  | tt (b : Bool)
  | str (s : ByteArray)
  | seq (sz n : Nat) (f : Nat → List V)
  | fn (f : Nat) (caps : List V)
  | nilfn
  | nilsl
  | esl
  | nilp
  | nilmap
  | agg (l : List V)
  | tup (l : List V)
  | ptr (k off : Nat)
  | elp (sz n : Nat) (f : Nat → List V) (i off : Nat)
  | rfp (l : List V) (off : Nat)
  | row (k off len cap : Nat)
  | vec (k : Nat)
  | vptr (k sz i off : Nat)
  | map (k : Nat)
  deriving Inhabited

mutual
/-- Every key in it is below n. -/
def V.ltB (n : Nat) : V → Bool
  | .ptr k _ => Nat.blt k n
  | .row k _ _ _ => Nat.blt k n
  | .vec k => Nat.blt k n
  | .vptr k _ _ _ => Nat.blt k n
  | .map k => Nat.blt k n
  | .agg l => V.ltL n l
  | .tup l => V.ltL n l
  | .fn _ l => V.ltL n l
  | _ => true
def V.ltL (n : Nat) : List V → Bool
  | [] => true
  | x :: l => V.ltB n x && V.ltL n l
end

/-- Data: what no own box is needed for. 'bad': the blocks that may still be written. -/
inductive CD (w : World) (bad : Nat → Prop) : V → Value → Prop
  | int {k n} : CD w bad (.int k n) (.int k n)
  | bool {b} : CD w bad (.bool b) (.bool b)
  | tt {b} : CD w bad (.tt b) (.bool b)
  | str {s} : CD w bad (.str s) (.string s)
  | seq {sz n f} (o : Option Addr) (b off c : Nat) (u : Nat → Nat → Value) (ho : 0 < n → o = some ⟨b, off, none⟩) (hnc : n ≤ c)
      (hl : ∀ i, i < n → (f i).length = sz)
      (hc : ∀ i j, i < n → j < sz → ¬ bad b ∧ w.cell? ⟨b, off + (i * sz + j), none⟩ = some (u i j))
      (hd : ∀ i j s, i < n → (f i)[j]? = some s → CD w bad s (u i j)) (hz : o = none → c = 0) : CD w bad (.seq sz n f) (.slice o n c)
  | rfp {l off} (b o : Nat) (u : Nat → Value) (hc : ∀ j, j < l.length → ¬ bad b ∧ w.cell? ⟨b, o + j, none⟩ = some (u j))
      (hd : ∀ j s, l[j]? = some s → CD w bad s (u j)) : CD w bad (.rfp l off) (.pointer (some ⟨b, o + off, none⟩))
  | fn {f l} (vs : Array Value) (u : Nat → Value) (hs : vs.size = l.length) (hv : ∀ j, j < l.length → vs[j]? = some (u j)) (hd : ∀ j s, l[j]? = some s → CD w bad s (u j)) :
      CD w bad (.fn f l) (.func (.func f) #[] vs)
  | nilfn : CD w bad .nilfn .nilFunc
  | nilsl : CD w bad .nilsl (.slice none 0 0)
  | esl (a c) : CD w bad .esl (.slice (some a) 0 c)
  | nilp : CD w bad .nilp (.pointer none)
  | nilmap : CD w bad .nilmap (.map none)

/-- With own boxes: 'σ' says where each key lies. -/
inductive CV (σ : Nat → Option Value) (w : World) (bad : Nat → Prop) : V → Value → Prop
  | junk {v} : CV σ w bad .junk v
  | data {s v} (h : CD w bad s v) : CV σ w bad s v
  | agg {l} (vs : Array Value) (u : Nat → Value) (hs : vs.size = l.length) (hv : ∀ j, j < l.length → vs[j]? = some (u j)) (h1 : ∀ j, j < l.length → (u j).oneCell' = true)
      (hd : ∀ j s, l[j]? = some s → CV σ w bad s (u j)) : CV σ w bad (.agg l) (.agg vs)
  | tup {l} (vs : Array Value) (u : Nat → Value) (hs : vs.size = l.length) (hv : ∀ j, j < l.length → vs[j]? = some (u j)) (hd : ∀ j s, l[j]? = some s → CV σ w bad s (u j)) :
      CV σ w bad (.tup l) (.tuple vs)
  | fn {f l} (vs : Array Value) (u : Nat → Value) (hs : vs.size = l.length) (hv : ∀ j, j < l.length → vs[j]? = some (u j)) (hd : ∀ j s, l[j]? = some s → CV σ w bad s (u j)) :
      CV σ w bad (.fn f l) (.func (.func f) #[] vs)
  | ptr {k off} (b : Nat) (h : σ k = some (.pointer (some ⟨b, 0, none⟩))) : CV σ w bad (.ptr k off) (.pointer (some ⟨b, off, none⟩))
  | row {k off len cap} (b : Nat) (h : σ k = some (.pointer (some ⟨b, 0, none⟩))) : CV σ w bad (.row k off len cap) (.slice (some ⟨b, off, none⟩) len cap)
  | vec {k} (v : Value) (h : σ k = some v) : CV σ w bad (.vec k) v
  | vptr {k sz i off} (b n c : Nat) (h : σ k = some (.slice (some ⟨b, 0, none⟩) n c)) : CV σ w bad (.vptr k sz i off) (.pointer (some ⟨b, i * sz + off, none⟩))
  | elp {sz n f i off} (b o c : Nat) (h : CD w bad (.seq sz n f) (.slice (some ⟨b, o, none⟩) n c)) (hi : i < n) : CV σ w bad (.elp sz n f i off) (.pointer (some ⟨b, o + (i * sz + off), none⟩))
  | map {k} (r : Nat) (h : σ k = some (.map (some r))) : CV σ w bad (.map k) (.map (some r))

section mono
variable {σ σ' : Nat → Option Value} {w w' : World} {bad bad' : Nat → Prop}

theorem CD.mono (hb : ∀ b, b < w.heap.size → ¬ bad b → ¬ bad' b ∧ w'.heap[b]? = w.heap[b]?) {s : V} {v : Value} (h : CD w bad s v) : CD w' bad' s v := by
  have key : ∀ (p : Addr) (x : Value), ¬ bad p.block → w.cell? p = some x → ¬ bad' p.block ∧ w'.cell? p = some x := by
    intro p x hp hx
    have hlt := World.block_lt_of_cell? w p hx
    obtain ⟨h1, h2⟩ := hb p.block hlt hp
    exact ⟨h1, (World.cell?_of_block h2).trans hx⟩
  induction h with
  | int => exact .int
  | bool => exact .bool
  | tt => exact .tt
  | str => exact .str
  | seq o b off c u ho hnc hl hc _ hz ih => exact .seq o b off c u ho hnc hl (fun i j hi hj => key ⟨b, _, none⟩ _ (hc i j hi hj).1 (hc i j hi hj).2) ih hz
  | rfp b o u hc _ ih => exact .rfp b o u (fun j hj => key ⟨b, _, none⟩ _ (hc j hj).1 (hc j hj).2) ih
  | fn vs u hs hv _ ih => exact .fn vs u hs hv ih
  | nilfn => exact .nilfn
  | nilsl => exact .nilsl
  | esl a c => exact .esl a c
  | nilp => exact .nilp
  | nilmap => exact .nilmap

theorem CV.mono (hσ : ∀ k v, σ k = some v → σ' k = some v) (hb : ∀ b, b < w.heap.size → ¬ bad b → ¬ bad' b ∧ w'.heap[b]? = w.heap[b]?) {s : V} {v : Value} (h : CV σ w bad s v) : CV σ' w' bad' s v := by
  induction h with
  | junk => exact .junk
  | data h => exact .data (h.mono hb)
  | agg vs u hs hv h1 _ ih => exact .agg vs u hs hv h1 ih
  | tup vs u hs hv _ ih => exact .tup vs u hs hv ih
  | fn vs u hs hv _ ih => exact .fn vs u hs hv ih
  | ptr b h => exact .ptr b (hσ _ _ h)
  | row b h => exact .row b (hσ _ _ h)
  | vec v h => exact .vec v (hσ _ _ h)
  | vptr b n c h => exact .vptr b n c (hσ _ _ h)
  | elp b o c h hi => exact .elp b o c (h.mono hb) hi
  | map r h => exact .map r (hσ _ _ h)

theorem ltL_get {n : Nat} : ∀ {l : List V}, V.ltL n l = true → ∀ (j : Nat) (s : V), l[j]? = some s → V.ltB n s = true
  | [], _, j, s, h => by simp at h
  | x :: l, hl, j, s, h => by
    simp only [V.ltL, Bool.and_eq_true] at hl
    cases j with
    | zero => simp at h; subst h; exact hl.1
    | succ j => exact ltL_get hl.2 j s (by simpa using h)

/-- Keys from n on may be forgotten where none is mentioned. -/
theorem CV.restrict {n : Nat} (hσ : ∀ k v, k < n → σ k = some v → σ' k = some v) {s : V} {v : Value} (h : CV σ w bad s v) (hs : V.ltB n s = true) : CV σ' w bad s v := by
  induction h with
  | junk => exact .junk
  | data h => exact .data h
  | agg vs u hz hv h1 _ ih => exact .agg vs u hz hv h1 (fun j s hj => ih j s hj (ltL_get hs j s hj))
  | tup vs u hz hv _ ih => exact .tup vs u hz hv (fun j s hj => ih j s hj (ltL_get hs j s hj))
  | fn vs u hz hv _ ih => exact .fn vs u hz hv (fun j s hj => ih j s hj (ltL_get hs j s hj))
  | ptr b h => exact .ptr b (hσ _ _ (by simpa [V.ltB] using hs) h)
  | row b h => exact .row b (hσ _ _ (by simpa [V.ltB] using hs) h)
  | vec v h => exact .vec v (hσ _ _ (by simpa [V.ltB] using hs) h)
  | vptr b n c h => exact .vptr b n c (hσ _ _ (by simpa [V.ltB] using hs) h)
  | elp b o c h hi => exact .elp b o c h hi
  | map r h => exact .map r (hσ _ _ (by simpa [V.ltB] using hs) h)

/-- One cell's worth. -/
def V.one : V → Bool
  | .junk | .agg _ | .tup _ | .vec _ => false
  | _ => true

theorem CD.oneCell {s : V} {v : Value} (h : CD w bad s v) : v.oneCell' = true := by cases h <;> rfl
theorem CV.oneCell {s : V} {v : Value} (h : CV σ w bad s v) (hs : s.one = true) : v.oneCell' = true := by
  cases h with
  | data h => exact h.oneCell
  | junk | agg | tup | vec => simp [V.one] at hs
  | _ => rfl
end mono

/-- Data by its form. -/
def V.isD : V → Bool
  | .int _ _ | .bool _ | .tt _ | .str _ | .seq _ _ _ | .nilfn | .nilsl | .esl | .nilp | .nilmap | .rfp _ _ => true
  | _ => false
def allD : List V → Bool
  | [] => true
  | s :: l => s.isD && allD l
theorem CV.toD {σ : Nat → Option Value} {w : World} {bad : Nat → Prop} {s : V} {v : Value} (h : CV σ w bad s v) (hs : s.isD = true) : CD w bad s v := by
  cases h with
  | data h => exact h
  | _ => simp [V.isD] at hs
theorem allD_get : ∀ {l : List V}, allD l = true → ∀ (j : Nat) (s : V), l[j]? = some s → s.isD = true
  | [], _, j, s, h => by simp at h
  | x :: l, hl, j, s, h => by
    simp only [allD, Bool.and_eq_true] at hl
    cases j with
    | zero => simp at h; subst h; exact hl.1
    | succ j => exact allD_get hl.2 j s (by simpa using h)

/-- A constant, read. -/
def ofConst : Value → V
  | .int k n => .int k n
  | .bool b => .tt b
  | .string s => .str s
  | .slice none 0 0 => .nilsl
  | .pointer none => .nilp
  | .map none => .nilmap
  | .nilFunc => .nilfn
  | _ => .junk

theorem ofConst_ok (w : World) (bad : Nat → Prop) (v : Value) (h : ofConst v ≠ .junk) : CD w bad (ofConst v) v := by
  unfold ofConst at *
  split at h <;> first
    | exact .int | exact .tt | exact .str | exact .nilsl | exact .nilp | exact .nilmap | exact .nilfn
    | exact absurd rfl h

end Go.Hb
