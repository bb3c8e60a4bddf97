/-
  THE SYMBOLIC LAYER, PART A: values known in part ('V'), what they say of a Go value in a memory ('CD': data; 'CV': with the call's own boxes), and how that stays true while other memory changes.
-/
import Derived.WalkKit
import Derived.Maps.AppendAt
import Derived.Deep.AppendLies
import Derived.Deep.Draws
import Derived.Orders
namespace Go.Hb
open Go.RowKit

/-- What is known of a Go value. 'seq sz n f': a slice of n elements (sz cells each) that nobody writes; 'rfp l off': a pointer into cells that nobody writes; 'ptr', 'row', 'vec', 'vptr', 'map': into the call's own boxes, by their keys; 'elp': a pointer to an element of a 'seq'. -/
inductive V where
  | junk
  | int (k : IntKind) (n : Int)
  | bool (b : Bool)
  | tt (b : Bool)
  | str (s : ByteArray)
  | seq (sz n : Nat) (f : Nat → List V)
  | fn (f : Nat) (caps : List V)
  | nilfn
  | nilsl
  | esl
  | nilp
  | nilmap
  | agg (l : List V)
  | tup (l : List V)
  | ptr (k off : Nat)
  | elp (sz n : Nat) (f : Nat → List V) (i off : Nat)
  | rfp (l : List V) (off : Nat)
  | row (k off len cap : Nat)
  | vec (k : Nat)
  | vptr (k sz i off : Nat)
  | map (k : Nat)
  | tail (k sz lo : Nat)
  deriving Inhabited

mutual
/-- Every key in it is below n. -/
def V.ltB (n : Nat) : V → Bool
  | .ptr k _ => Nat.blt k n
  | .row k _ _ _ => Nat.blt k n
  | .vec k => Nat.blt k n
  | .vptr k _ _ _ => Nat.blt k n
  | .map k => Nat.blt k n
  | .tail k _ _ => Nat.blt k n
  | .agg l => V.ltL n l
  | .tup l => V.ltL n l
  | .fn _ l => V.ltL n l
  | _ => true
def V.ltL (n : Nat) : List V → Bool
  | [] => true
  | x :: l => V.ltB n x && V.ltL n l
end

/-- Data: what no own box is needed for. 'bad': the blocks that may still be written. -/
inductive CD (w : World) (bad : Nat → Prop) : V → Value → Prop
  | int {k n} : CD w bad (.int k n) (.int k n)
  | bool {b} : CD w bad (.bool b) (.bool b)
  | tt {b} : CD w bad (.tt b) (.bool b)
  | str {s} : CD w bad (.str s) (.string s)
  | seq {sz n f} (o : Option Addr) (b off c : Nat) (u : Nat → Nat → Value) (ho : 0 < n → o = some ⟨b, off, none⟩) (hnc : n ≤ c)
      (hl : ∀ i, i < n → (f i).length = sz)
      (hc : ∀ i j, i < n → j < sz → ¬ bad b ∧ w.cell? ⟨b, off + (i * sz + j), none⟩ = some (u i j))
      (hd : ∀ i j s, i < n → (f i)[j]? = some s → CD w bad s (u i j)) (hz : o = none → c = 0) : CD w bad (.seq sz n f) (.slice o n c)
  | rfp {l off} (b o : Nat) (u : Nat → Value) (hc : ∀ j, j < l.length → ¬ bad b ∧ w.cell? ⟨b, o + j, none⟩ = some (u j))
      (hd : ∀ j s, l[j]? = some s → CD w bad s (u j)) : CD w bad (.rfp l off) (.pointer (some ⟨b, o + off, none⟩))
  | fn {f l} (vs : Array Value) (u : Nat → Value) (hs : vs.size = l.length) (hv : ∀ j, j < l.length → vs[j]? = some (u j)) (hd : ∀ j s, l[j]? = some s → CD w bad s (u j)) :
      CD w bad (.fn f l) (.func (.func f) #[] vs)
  | nilfn : CD w bad .nilfn .nilFunc
  | nilsl : CD w bad .nilsl (.slice none 0 0)
  | esl (a c) : CD w bad .esl (.slice (some a) 0 c)
  | nilp : CD w bad .nilp (.pointer none)
  | nilmap : CD w bad .nilmap (.map none)

/-- With own boxes: 'σ' says where each key lies. -/
inductive CV (σ : Nat → Option Value) (w : World) (bad : Nat → Prop) : V → Value → Prop
  | junk {v} : CV σ w bad .junk v
  | data {s v} (h : CD w bad s v) : CV σ w bad s v
  | agg {l} (vs : Array Value) (u : Nat → Value) (hs : vs.size = l.length) (hv : ∀ j, j < l.length → vs[j]? = some (u j)) (h1 : ∀ j, j < l.length → (u j).oneCell' = true)
      (hd : ∀ j s, l[j]? = some s → CV σ w bad s (u j)) : CV σ w bad (.agg l) (.agg vs)
  | tup {l} (vs : Array Value) (u : Nat → Value) (hs : vs.size = l.length) (hv : ∀ j, j < l.length → vs[j]? = some (u j)) (hd : ∀ j s, l[j]? = some s → CV σ w bad s (u j)) :
      CV σ w bad (.tup l) (.tuple vs)
  | fn {f l} (vs : Array Value) (u : Nat → Value) (hs : vs.size = l.length) (hv : ∀ j, j < l.length → vs[j]? = some (u j)) (hd : ∀ j s, l[j]? = some s → CV σ w bad s (u j)) :
      CV σ w bad (.fn f l) (.func (.func f) #[] vs)
  | ptr {k off} (b : Nat) (h : σ k = some (.pointer (some ⟨b, 0, none⟩))) : CV σ w bad (.ptr k off) (.pointer (some ⟨b, off, none⟩))
  | row {k off len cap} (b : Nat) (h : σ k = some (.pointer (some ⟨b, 0, none⟩))) : CV σ w bad (.row k off len cap) (.slice (some ⟨b, off, none⟩) len cap)
  | vec {k} (v : Value) (h : σ k = some v) : CV σ w bad (.vec k) v
  | vptr {k sz i off} (b n c : Nat) (h : σ k = some (.slice (some ⟨b, 0, none⟩) n c)) : CV σ w bad (.vptr k sz i off) (.pointer (some ⟨b, i * sz + off, none⟩))
  | elp {sz n f i off} (b o c : Nat) (h : CD w bad (.seq sz n f) (.slice (some ⟨b, o, none⟩) n c)) (hi : i < n) : CV σ w bad (.elp sz n f i off) (.pointer (some ⟨b, o + (i * sz + off), none⟩))
  | map {k} (r : Nat) (h : σ k = some (.map (some r))) : CV σ w bad (.map k) (.map (some r))
  | tail {k sz lo} (b n c : Nat) (h : σ k = some (.slice (some ⟨b, 0, none⟩) n c)) (hlo : lo < n) : CV σ w bad (.tail k sz lo) (.slice (some ⟨b, lo * sz, none⟩) (n - lo) (c - lo))

section mono
variable {σ σ' : Nat → Option Value} {w w' : World} {bad bad' : Nat → Prop}

theorem CD.mono (hb : ∀ b, b < w.heap.size → ¬ bad b → ¬ bad' b ∧ w'.heap[b]? = w.heap[b]?) {s : V} {v : Value} (h : CD w bad s v) : CD w' bad' s v := by
  have key : ∀ (p : Addr) (x : Value), ¬ bad p.block → w.cell? p = some x → ¬ bad' p.block ∧ w'.cell? p = some x := by
    intro p x hp hx
    have hlt := World.block_lt_of_cell? w p hx
    obtain ⟨h1, h2⟩ := hb p.block hlt hp
    exact ⟨h1, (World.cell?_of_block h2).trans hx⟩
  induction h with
  | int => exact .int
  | bool => exact .bool
  | tt => exact .tt
  | str => exact .str
  | seq o b off c u ho hnc hl hc _ hz ih => exact .seq o b off c u ho hnc hl (fun i j hi hj => key ⟨b, _, none⟩ _ (hc i j hi hj).1 (hc i j hi hj).2) ih hz
  | rfp b o u hc _ ih => exact .rfp b o u (fun j hj => key ⟨b, _, none⟩ _ (hc j hj).1 (hc j hj).2) ih
  | fn vs u hs hv _ ih => exact .fn vs u hs hv ih
  | nilfn => exact .nilfn
  | nilsl => exact .nilsl
  | esl a c => exact .esl a c
  | nilp => exact .nilp
  | nilmap => exact .nilmap

theorem CV.mono (hσ : ∀ k v, σ k = some v → σ' k = some v) (hb : ∀ b, b < w.heap.size → ¬ bad b → ¬ bad' b ∧ w'.heap[b]? = w.heap[b]?) {s : V} {v : Value} (h : CV σ w bad s v) : CV σ' w' bad' s v := by
  induction h with
  | junk => exact .junk
  | data h => exact .data (h.mono hb)
  | agg vs u hs hv h1 _ ih => exact .agg vs u hs hv h1 ih
  | tup vs u hs hv _ ih => exact .tup vs u hs hv ih
  | fn vs u hs hv _ ih => exact .fn vs u hs hv ih
  | ptr b h => exact .ptr b (hσ _ _ h)
  | row b h => exact .row b (hσ _ _ h)
  | vec v h => exact .vec v (hσ _ _ h)
  | vptr b n c h => exact .vptr b n c (hσ _ _ h)
  | elp b o c h hi => exact .elp b o c (h.mono hb) hi
  | map r h => exact .map r (hσ _ _ h)
  | tail b n c h hlo => exact .tail b n c (hσ _ _ h) hlo

theorem ltL_get {n : Nat} : ∀ {l : List V}, V.ltL n l = true → ∀ (j : Nat) (s : V), l[j]? = some s → V.ltB n s = true
  | [], _, j, s, h => by simp at h
  | x :: l, hl, j, s, h => by
    simp only [V.ltL, Bool.and_eq_true] at hl
    cases j with
    | zero => simp at h; subst h; exact hl.1
    | succ j => exact ltL_get hl.2 j s (by simpa using h)

/-- Keys from n on may be forgotten where none is mentioned. -/
theorem CV.restrict {n : Nat} (hσ : ∀ k v, k < n → σ k = some v → σ' k = some v) {s : V} {v : Value} (h : CV σ w bad s v) (hs : V.ltB n s = true) : CV σ' w bad s v := by
  induction h with
  | junk => exact .junk
  | data h => exact .data h
  | agg vs u hz hv h1 _ ih => exact .agg vs u hz hv h1 (fun j s hj => ih j s hj (ltL_get hs j s hj))
  | tup vs u hz hv _ ih => exact .tup vs u hz hv (fun j s hj => ih j s hj (ltL_get hs j s hj))
  | fn vs u hz hv _ ih => exact .fn vs u hz hv (fun j s hj => ih j s hj (ltL_get hs j s hj))
  | ptr b h => exact .ptr b (hσ _ _ (by simpa [V.ltB] using hs) h)
  | row b h => exact .row b (hσ _ _ (by simpa [V.ltB] using hs) h)
  | vec v h => exact .vec v (hσ _ _ (by simpa [V.ltB] using hs) h)
  | vptr b n c h => exact .vptr b n c (hσ _ _ (by simpa [V.ltB] using hs) h)
  | elp b o c h hi => exact .elp b o c h hi
  | map r h => exact .map r (hσ _ _ (by simpa [V.ltB] using hs) h)
  | tail b n c h hlo => exact .tail b n c (hσ _ _ (by simpa [V.ltB] using hs) h) hlo

/-- One cell's worth. -/
def V.one : V → Bool
  | .junk | .agg _ | .tup _ | .vec _ => false
  | _ => true

theorem CD.oneCell {s : V} {v : Value} (h : CD w bad s v) : v.oneCell' = true := by cases h <;> rfl
theorem CV.oneCell {s : V} {v : Value} (h : CV σ w bad s v) (hs : s.one = true) : v.oneCell' = true := by
  cases h with
  | data h => exact h.oneCell
  | junk | agg | tup | vec => simp [V.one] at hs
  | _ => rfl
end mono

/-- Data by its form. -/
def V.isD : V → Bool
  | .int _ _ | .bool _ | .tt _ | .str _ | .seq _ _ _ | .nilfn | .nilsl | .esl | .nilp | .nilmap | .rfp _ _ => true
  | _ => false
def allD : List V → Bool
  | [] => true
  | s :: l => s.isD && allD l
theorem CV.toD {σ : Nat → Option Value} {w : World} {bad : Nat → Prop} {s : V} {v : Value} (h : CV σ w bad s v) (hs : s.isD = true) : CD w bad s v := by
  cases h with
  | data h => exact h
  | _ => simp [V.isD] at hs
theorem allD_get : ∀ {l : List V}, allD l = true → ∀ (j : Nat) (s : V), l[j]? = some s → s.isD = true
  | [], _, j, s, h => by simp at h
  | x :: l, hl, j, s, h => by
    simp only [allD, Bool.and_eq_true] at hl
    cases j with
    | zero => simp at h; subst h; exact hl.1
    | succ j => exact allD_get hl.2 j s (by simpa using h)

/-- A constant, read. -/
def ofConst : Value → V
  | .int k n => .int k n
  | .bool b => .tt b
  | .string s => .str s
  | .slice none 0 0 => .nilsl
  | .pointer none => .nilp
  | .map none => .nilmap
  | .nilFunc => .nilfn
  | _ => .junk

theorem ofConst_ok (w : World) (bad : Nat → Prop) (v : Value) (h : ofConst v ≠ .junk) : CD w bad (ofConst v) v := by
  unfold ofConst at *
  split at h <;> first
    | exact .int | exact .tt | exact .str | exact .nilsl | exact .nilp | exact .nilmap | exact .nilfn
    | exact absurd rfl h

end Go.Hb

/-
  THE SYMBOLIC LAYER, PART B: a symbolic state (slots and own boxes), what it says of an activation and a memory ('Rel'), and how it follows a memory that changes in one own block.
-/
namespace Go.Hb
open Go.RowKit

def aget {α : Type} : List (Nat × α) → Nat → Option α
  | [], _ => none
  | (k, x) :: l, n => match Nat.beq k n with
    | true => some x
    | false => aget l n

def adel {α : Type} : List (Nat × α) → Nat → List (Nat × α)
  | [], _ => []
  | (k, x) :: l, n => match Nat.beq k n with
    | true => adel l n
    | false => (k, x) :: adel l n

def aput {α : Type} (l : List (Nat × α)) (n : Nat) (x : α) : List (Nat × α) := (n, x) :: adel l n

theorem aget_adel {α : Type} (l : List (Nat × α)) (n m : Nat) : aget (adel l n) m = if m = n then none else aget l m := by
  induction l with
  | nil => simp [adel, aget]
  | cons p l ih =>
    obtain ⟨k, x⟩ := p
    by_cases hk : k = n
    · subst hk
      simp only [adel, Nat.beq_refl, ih, aget]
      by_cases hm : m = k
      · simp [hm]
      · have hkm : Nat.beq k m = false := by rw [← Bool.not_eq_true, Nat.beq_eq]; omega
        simp [hm, hkm]
    · have hkn : Nat.beq k n = false := by rw [← Bool.not_eq_true, Nat.beq_eq]; exact hk
      simp only [adel, hkn, aget]
      by_cases hkm : k = m
      · subst hkm
        simp [hk]
      · have hkm' : Nat.beq k m = false := by rw [← Bool.not_eq_true, Nat.beq_eq]; exact hkm
        simp only [hkm', ih]

theorem aget_aput {α : Type} (l : List (Nat × α)) (n m : Nat) (x : α) : aget (aput l n x) m = if m = n then some x else aget l m := by
  unfold aput
  by_cases h : n = m
  · subst h; simp [aget]
  · have hb : Nat.beq n m = false := by rw [← Bool.not_eq_true, Nat.beq_eq]; exact h
    simp only [aget, hb, aget_adel]
    rw [if_neg (fun e => h e.symm), if_neg (fun e => h e.symm)]

/-- An own box. -/
inductive Box where
  | cells (ty : Nat) (l : List V)
  | vec (ty sz n : Nat) (f : Nat → List V)
  | mapB (n : Nat) (m : Int → Option Bool)
  | mapI (n : Nat) (m : Int → Option Int)
  | mapF (n : Nat) (m : Int → Option Nat)
  deriving Inhabited

structure St where
  nt : Nat
  nx : Nat
  fr : List (Nat × V)
  bx : List (Nat × Box)

/-- The block of a key's box. -/
def blkOf : Option Value → Option Nat
  | some (.pointer (some a)) => some a.block
  | some (.slice (some a) _ _) => some a.block
  | some (.map (some r)) => some r
  | _ => none

/-- The entry of an int key. -/
def intEntry (n : Int) : List MapEntry → Option Value
  | [] => none
  | e :: l => match e.key with
    | .int .i64 k => if n = k then some e.val else intEntry n l
    | _ => none

/-- Int keys, each once. -/
def intKeys : List MapEntry → List Int
  | [] => []
  | e :: l => (match e.key with | .int _ k => k | _ => 0) :: intKeys l

structure IntMap (w : World) (r n : Nat) (val : Int → Option Value) : Prop where
  is : ∃ es clock, w.heap[r]? = some (.map es clock) ∧ es.size = n ∧ (∀ e ∈ es.toList, ∃ k, e.key = .int .i64 k) ∧ (intKeys es.toList).Nodup ∧ ∀ k, intEntry k es.toList = val k

inductive BRel (σ : Nat → Option Value) (w : World) (bad : Nat → Prop) (k : Nat) : Box → Prop
  | cells {ty : Nat} {l : List V} (b : Nat) (cs : Array Value) (hk : σ k = some (.pointer (some ⟨b, 0, none⟩))) (hh : w.heap[b]? = some (.cells cs ty (0, 0))) (hs : cs.size = l.length)
      (hc : ∀ (j : Nat) (s : V), l[j]? = some s → ∃ v, cs[j]? = some v ∧ CV σ w bad s v ∧ v.oneCell' = true) : BRel σ w bad k (.cells ty l)
  | vec {ty sz n : Nat} {f : Nat → List V} (v : Value) (xs : List Value) (hk : σ k = some v) (ho : w.ownsRow 0 ty sz v n xs) (hl : ∀ i, i < n → (f i).length = sz)
      (hc : ∀ (i j : Nat) (s : V), i < n → (f i)[j]? = some s → ∃ x, xs[i * sz + j]? = some x ∧ CD w bad s x) : BRel σ w bad k (.vec ty sz n f)
  | mapB {n : Nat} {m : Int → Option Bool} (r : Nat) (hk : σ k = some (.map (some r))) (h : IntMap w r n fun i => (m i).map Value.bool) : BRel σ w bad k (.mapB n m)
  | mapI {n : Nat} {m : Int → Option Int} (r : Nat) (hk : σ k = some (.map (some r))) (h : IntMap w r n fun i => (m i).map (Value.int .i64)) : BRel σ w bad k (.mapI n m)
  | mapF {n : Nat} {m : Int → Option Nat} (r : Nat) (hk : σ k = some (.map (some r))) (h : IntMap w r n fun i => (m i).map fun g => Value.func (.func g) #[] #[]) : BRel σ w bad k (.mapF n m)

/-- What the call began with: the memory, the blocks that are not its to read ('bad0') and those of before that are its to write ('wr'). -/
structure Env where
  w0 : World
  bad0 : Nat → Prop
  wr : Nat → Prop

def Env.N (E : Env) : Nat := E.w0.heap.size

def badOf (E : Env) (σ : Nat → Option Value) (bx : List (Nat × Box)) (b : Nat) : Prop := E.bad0 b ∨ ∃ k B, aget bx k = some B ∧ blkOf (σ k) = some b

/-- The memory, as far as the own boxes go. -/
structure Mem (E : Env) (σ : Nat → Option Value) (bx : List (Nat × Box)) (w : World) : Prop where
  box : ∀ k B, aget bx k = some B → BRel σ w (badOf E σ bx) k B
  own : ∀ k B b, aget bx k = some B → blkOf (σ k) = some b → b < w.heap.size ∧ ¬ E.bad0 b ∧ (E.N ≤ b ∨ E.wr b)
  dist : ∀ k k' B B' b, aget bx k = some B → aget bx k' = some B' → blkOf (σ k) = some b → blkOf (σ k') = some b → k = k'
  os : w.os = E.w0.os
  tape : w.tape = E.w0.tape
  output : w.output = E.w0.output
  size : E.N ≤ w.heap.size
  old : ∀ b, b < E.N → ¬ E.wr b → w.heap[b]? = E.w0.heap[b]?
  hbad : ∀ b, E.bad0 b → b < E.N

structure Rel (E : Env) (σ : Nat → Option Value) (S : St) (a : Act) (w : World) : Prop extends Mem E σ S.bx w where
  dfs : a.defers = []
  nt : a.tmps.size = S.nt
  fr : ∀ t s, aget S.fr t = some s → ∃ v, a.tmps[t]? = some v ∧ CV σ w (badOf E σ S.bx) s v

section
variable {E : Env} {σ σ' : Nat → Option Value} {S : St} {a : Act} {w w' : World} {bx : List (Nat × Box)}

theorem BRel.key {bad : Nat → Prop} {k : Nat} {B : Box} (h : BRel σ w bad k B) : ∃ v, σ k = some v := by cases h <;> exact ⟨_, by assumption⟩

theorem IntMap.kept {r n : Nat} {val : Int → Option Value} (h : IntMap w r n val) (e : w'.heap[r]? = w.heap[r]?) : IntMap w' r n val := by
  obtain ⟨es, clock, h1, h2⟩ := h
  exact ⟨es, clock, e.trans h1, h2⟩

theorem BRel.mono {bad bad' : Nat → Prop} {k : Nat} {B : Box} (hσ : ∀ k v, σ k = some v → σ' k = some v) (hb : ∀ b, b < w.heap.size → ¬ bad b → ¬ bad' b ∧ w'.heap[b]? = w.heap[b]?)
    (hblk : ∀ b, blkOf (σ k) = some b → w'.heap[b]? = w.heap[b]?) (h : BRel σ w bad k B) : BRel σ' w' bad' k B := by
  cases h with
  | cells b cs hk hh hs hc =>
    exact .cells b cs (hσ _ _ hk) ((hblk b (by rw [hk]; rfl)).trans hh) hs fun j s hj => by
      obtain ⟨v, h1, h2, h3⟩ := hc j s hj
      exact ⟨v, h1, h2.mono hσ hb, h3⟩
  | vec v xs hk ho hl hc =>
    refine .vec v xs (hσ _ _ hk) ?_ hl fun i j s hi hj => by
      obtain ⟨x, h1, h2⟩ := hc i j s hi hj
      exact ⟨x, h1, h2.mono hb⟩
    refine ⟨ho.1, ?_⟩
    rcases ho.2 with h0 | ⟨g, cap, cur, hv, hb0, hg, rest⟩
    · exact .inl h0
    · exact .inr ⟨g, cap, cur, hv, hb0, by rw [hblk g (by rw [hk, hv]; rfl)]; exact hg, rest⟩
  | mapB r hk h => exact .mapB r (hσ _ _ hk) (h.kept (hblk r (by rw [hk]; rfl)))
  | mapI r hk h => exact .mapI r (hσ _ _ hk) (h.kept (hblk r (by rw [hk]; rfl)))
  | mapF r hk h => exact .mapF r (hσ _ _ hk) (h.kept (hblk r (by rw [hk]; rfl)))

/-- What may be read stays as it is where one own block is written. -/
theorem Mem.readable {bx' : List (Nat × Box)} {row : Option Nat} {k1 : Option Nat} (h : Mem E σ bx w) (hσ : ∀ k v, σ k = some v → σ' k = some v) (g : w.grownBy w' row)
    (hrow : ∀ b, row = some b → ∃ k B, aget bx k = some B ∧ blkOf (σ k) = some b)
    (hk : ∀ k B, aget bx' k = some B → some k ≠ k1 → aget bx k = some B)
    (h1 : ∀ k B b, k1 = some k → aget bx' k = some B → blkOf (σ' k) = some b → w.heap.size ≤ b ∨ row = some b) :
    ∀ b, b < w.heap.size → ¬ badOf E σ bx b → ¬ badOf E σ' bx' b ∧ w'.heap[b]? = w.heap[b]? := by
  intro b hb hn
  refine ⟨?_, g.block b hb fun e => ?_⟩
  · rintro (h0 | ⟨k, B, hg, hkb⟩)
    · exact hn (.inl h0)
    · by_cases hkk : some k = k1
      · rcases h1 k B b hkk.symm hg hkb with h2 | h2
        · omega
        · obtain ⟨k', B', hg', hb'⟩ := hrow b h2
          exact hn (.inr ⟨k', B', hg', hb'⟩)
      · have hg' := hk k B hg hkk
        obtain ⟨v, hv⟩ := (h.box k B hg').key
        rw [hσ k v hv] at hkb
        exact hn (.inr ⟨k, B, hg', by rw [hv]; exact hkb⟩)
  · obtain ⟨k', B', hg', hb'⟩ := hrow b e.symm
    exact hn (.inr ⟨k', B', hg', hb'⟩)

/-- One own block written, or blocks made: the boxes but 'k1' are those that were there, and lie elsewhere. -/
theorem Mem.step {bx' : List (Nat × Box)} {row : Option Nat} {k1 : Option Nat} (h : Mem E σ bx w) (hσ : ∀ k v, σ k = some v → σ' k = some v) (g : w.grownBy w' row)
    (hrow : ∀ b, row = some b → ∃ k B, aget bx k = some B ∧ blkOf (σ k) = some b)
    (hk : ∀ k B, aget bx' k = some B → some k ≠ k1 → aget bx k = some B ∧ ∀ b, row = some b → blkOf (σ k) ≠ some b)
    (h1 : ∀ k B, k1 = some k → aget bx' k = some B → BRel σ' w' (badOf E σ' bx') k B ∧ ∀ b, blkOf (σ' k) = some b → b < w'.heap.size ∧ (w.heap.size ≤ b ∨ row = some b)) :
    Mem E σ' bx' w' := by
  have hb := h.readable hσ g hrow (fun k B hg hne => (hk k B hg hne).1) (fun k B b he hg hbb => ((h1 k B he hg).2 b hbb).2)
  have hrowown : ∀ b, row = some b → ¬ E.bad0 b ∧ (E.N ≤ b ∨ E.wr b) := by
    intro b hb
    obtain ⟨k, B, hg, hkb⟩ := hrow b hb
    exact (h.own k B b hg hkb).2
  have hkeep : ∀ k B b, aget bx' k = some B → some k ≠ k1 → blkOf (σ' k) = some b → aget bx k = some B ∧ blkOf (σ k) = some b ∧ row ≠ some b := by
    intro k B b hg hne hbb
    obtain ⟨hg', hr⟩ := hk k B hg hne
    obtain ⟨v, hv⟩ := (h.box k B hg').key
    rw [hσ k v hv] at hbb
    have hbb' : blkOf (σ k) = some b := by rw [hv]; exact hbb
    exact ⟨hg', hbb', fun e => hr b e hbb'⟩
  refine ⟨?_, ?_, ?_, g.os.trans h.os, g.tape.trans h.tape, g.output.trans h.output, Nat.le_trans h.size g.size, ?_, h.hbad⟩
  · intro k B hg
    by_cases hkk : some k = k1
    · exact (h1 k B hkk.symm hg).1
    · obtain ⟨hg', hr⟩ := hk k B hg hkk
      refine (h.box k B hg').mono hσ hb fun b hbb => g.block b (h.own k B b hg' hbb).1 fun e => hr b e.symm hbb
  · intro k B b hg hbb
    by_cases hkk : some k = k1
    · obtain ⟨h2, h3⟩ := (h1 k B hkk.symm hg).2 b hbb
      refine ⟨h2, ?_⟩
      rcases h3 with h3 | h3
      · have hs := h.size
        exact ⟨fun h0 => by have := h.hbad b h0; omega, .inl (Nat.le_trans hs h3)⟩
      · exact hrowown b h3
    · obtain ⟨hg', hbb', _⟩ := hkeep k B b hg hkk hbb
      obtain ⟨h2, h3⟩ := h.own k B b hg' hbb'
      exact ⟨Nat.lt_of_lt_of_le h2 g.size, h3⟩
  · intro k k' B B' b hg hg' hbb hbb'
    by_cases hkk : some k = k1 <;> by_cases hkk' : some k' = k1
    · rw [← hkk'] at hkk; injection hkk
    · obtain ⟨h2, h3, h4⟩ := hkeep k' B' b hg' hkk' hbb'
      rcases ((h1 k B hkk.symm hg).2 b hbb).2 with h5 | h5
      · have := (h.own k' B' b h2 h3).1; omega
      · exact absurd h5 h4
    · obtain ⟨h2, h3, h4⟩ := hkeep k B b hg hkk hbb
      rcases ((h1 k' B' hkk'.symm hg').2 b hbb').2 with h5 | h5
      · have := (h.own k B b h2 h3).1; omega
      · exact absurd h5 h4
    · obtain ⟨h2, h3, _⟩ := hkeep k B b hg hkk hbb
      obtain ⟨h4, h5, _⟩ := hkeep k' B' b hg' hkk' hbb'
      exact h.dist k k' B B' b h2 h4 h3 h5
  · intro b hb' hm
    rw [g.block b (Nat.lt_of_lt_of_le hb' h.size) fun e => by
      rcases (hrowown b e.symm).2 with h2 | h2
      · omega
      · exact hm h2]
    exact h.old b hb' hm

theorem Rel.step {bx' : List (Nat × Box)} {row : Option Nat} {k1 : Option Nat} (h : Rel E σ S a w) (hσ : ∀ k v, σ k = some v → σ' k = some v) (g : w.grownBy w' row)
    (hrow : ∀ b, row = some b → ∃ k B, aget S.bx k = some B ∧ blkOf (σ k) = some b)
    (hk : ∀ k B, aget bx' k = some B → some k ≠ k1 → aget S.bx k = some B ∧ ∀ b, row = some b → blkOf (σ k) ≠ some b)
    (h1 : ∀ k B, k1 = some k → aget bx' k = some B → BRel σ' w' (badOf E σ' bx') k B ∧ ∀ b, blkOf (σ' k) = some b → b < w'.heap.size ∧ (w.heap.size ≤ b ∨ row = some b)) :
    Rel E σ' { S with bx := bx' } a w' := by
  have hb := h.readable hσ g hrow (fun k B hg hne => (hk k B hg hne).1) (fun k B b he hg hbb => ((h1 k B he hg).2 b hbb).2)
  refine ⟨h.toMem.step hσ g hrow hk h1, h.dfs, h.nt, ?_⟩
  intro t s hs
  obtain ⟨v, hv, hc⟩ := h.fr t s hs
  exact ⟨v, hv, hc.mono hσ hb⟩

/-- A slot is written. -/
theorem Rel.put {t : Nat} {s : V} {v : Value} (h : Rel E σ S a w) (ht : t < S.nt) (hc : CV σ w (badOf E σ S.bx) s v) : Rel E σ { S with fr := aput S.fr t s } (a.put (some t) v) w := by
  refine ⟨h.toMem, h.dfs, by simpa [Act.put] using h.nt, ?_⟩
  intro u r hr
  rw [aget_aput] at hr
  by_cases hu : u = t
  · subst hu
    rw [if_pos rfl] at hr
    injection hr with hr
    subst hr
    exact ⟨v, by simp [Act.put, h.nt, ht], hc⟩
  · rw [if_neg hu] at hr
    obtain ⟨x, hx, hcx⟩ := h.fr u r hr
    refine ⟨x, ?_, hcx⟩
    simp only [Act.put, Array.getElem?_setIfInBounds, hx]
    rw [if_neg (fun e => hu e.symm)]

/-- A slot becomes unknown. -/
theorem Rel.drop {t : Nat} (h : Rel E σ S a w) (v : Value) : Rel E σ { S with fr := adel S.fr t } (a.put (some t) v) w := by
  refine ⟨h.toMem, h.dfs, by simpa [Act.put] using h.nt, ?_⟩
  intro u r hr
  rw [aget_adel] at hr
  by_cases hu : u = t
  · rw [if_pos hu] at hr; cases hr
  · rw [if_neg hu] at hr
    obtain ⟨x, hx, hcx⟩ := h.fr u r hr
    refine ⟨x, ?_, hcx⟩
    simp only [Act.put, Array.getElem?_setIfInBounds, hx]
    rw [if_neg (fun e => hu e.symm)]

/-- Less is known. -/
theorem Mem.readable_less {bx' : List (Nat × Box)} (hbx : ∀ k B, aget bx' k = some B → aget bx k = some B) : ∀ b, b < w.heap.size → ¬ badOf E σ bx b → ¬ badOf E σ bx' b ∧ w.heap[b]? = w.heap[b]? := by
  intro b _ hn
  refine ⟨?_, rfl⟩
  rintro (h0 | ⟨k, B, hg, hkb⟩)
  · exact hn (.inl h0)
  · exact hn (.inr ⟨k, B, hbx k B hg, hkb⟩)

theorem Mem.weaken {bx' : List (Nat × Box)} (h : Mem E σ bx w) (hbx : ∀ k B, aget bx' k = some B → aget bx k = some B) : Mem E σ bx' w :=
  ⟨fun k B hg => (h.box k B (hbx k B hg)).mono (fun _ _ h => h) (Mem.readable_less hbx) fun _ _ => rfl,
   fun k B b hg => h.own k B b (hbx k B hg), fun k k' B B' b hg hg' => h.dist k k' B B' b (hbx k B hg) (hbx k' B' hg'), h.os, h.tape, h.output, h.size, h.old, h.hbad⟩

theorem Rel.weaken {S' : St} (h : Rel E σ S a w) (hnt : S'.nt = S.nt) (hfr : ∀ t s, aget S'.fr t = some s → aget S.fr t = some s) (hbx : ∀ k B, aget S'.bx k = some B → aget S.bx k = some B) : Rel E σ S' a w := by
  refine ⟨h.toMem.weaken hbx, h.dfs, by rw [hnt]; exact h.nt, ?_⟩
  intro t s hs
  obtain ⟨v, hv, hc⟩ := h.fr t s (hfr t s hs)
  exact ⟨v, hv, hc.mono (fun _ _ h => h) (Mem.readable_less hbx)⟩

/-- The memory was added to, or a draw was made. -/
theorem Rel.grown (h : Rel E σ S a w) (g : w.grownBy w' none) : Rel E σ S a w' :=
  h.step (bx' := S.bx) (row := none) (k1 := none) (σ' := σ) (fun _ _ h => h) g (fun _ h => by cases h)
    (fun k B hg _ => ⟨hg, fun _ h => by cases h⟩) (fun k B he => by cases he)

theorem grownBy_drew (w : World) (n : Nat) (row : Option Nat) : w.grownBy { w with drawn := n } row := ⟨rfl, rfl, rfl, Nat.le_refl _, fun _ _ _ => rfl⟩

/-- A new box. -/
theorem Rel.add {k1 : Nat} {B1 : Box} {v1 : Value} (h : Rel E σ S a w) (hf : σ k1 = none) (g : w.grownBy w' none) 
    (hblk : ∀ b, blkOf (some v1) = some b → w.heap.size ≤ b ∧ b < w'.heap.size)
    (hB : (∀ b, b < w.heap.size → ¬ badOf E σ S.bx b → ¬ badOf E (fun k => if k = k1 then some v1 else σ k) (aput S.bx k1 B1) b ∧ w'.heap[b]? = w.heap[b]?) →
      BRel (fun k => if k = k1 then some v1 else σ k) w' (badOf E (fun k => if k = k1 then some v1 else σ k) (aput S.bx k1 B1)) k1 B1) :
    Rel E (fun k => if k = k1 then some v1 else σ k) { S with bx := aput S.bx k1 B1 } a w' := by
  have hσ : ∀ k v, σ k = some v → (fun k => if k = k1 then some v1 else σ k) k = some v := by
    intro k v hv
    show (if k = k1 then some v1 else σ k) = some v
    rw [if_neg (fun e => by rw [e, hf] at hv; cases hv)]; exact hv
  have hk : ∀ k B, aget (aput S.bx k1 B1) k = some B → some k ≠ some k1 → aget S.bx k = some B := by
    intro k B hg hne
    rw [aget_aput, if_neg (fun e => hne (by rw [e]))] at hg
    exact hg
  have hb := h.readable (k1 := some k1) hσ g (fun _ h => by cases h) hk (fun k B b he hg hbb => by
    injection he with he; subst he
    exact .inl (hblk b (by simpa using hbb)).1)
  refine h.step (k1 := some k1) hσ g (fun _ h => by cases h) (fun k B hg hne => ⟨hk k B hg hne, fun _ h => by cases h⟩) fun k B he hg => ?_
  injection he with he; subst he
  rw [aget_aput, if_pos rfl] at hg
  injection hg with hg; subst hg
  exact ⟨hB hb, fun b hbb => by have := hblk b (by simpa using hbb); exact ⟨this.2, .inl this.1⟩⟩

/-- An own box written. -/
theorem Rel.write {k1 : Nat} {B0 B1 : Box} {b0 : Nat} (h : Rel E σ S a w) (h0 : aget S.bx k1 = some B0) (hb0 : blkOf (σ k1) = some b0) (g : w.grownBy w' (some b0))
    (hB : (∀ b, b < w.heap.size → ¬ badOf E σ S.bx b → ¬ badOf E σ (aput S.bx k1 B1) b ∧ w'.heap[b]? = w.heap[b]?) → BRel σ w' (badOf E σ (aput S.bx k1 B1)) k1 B1) :
    Rel E σ { S with bx := aput S.bx k1 B1 } a w' := by
  have hk : ∀ k B, aget (aput S.bx k1 B1) k = some B → some k ≠ some k1 → aget S.bx k = some B := by
    intro k B hg hne
    rw [aget_aput, if_neg (fun e => hne (by rw [e]))] at hg
    exact hg
  have hrow : ∀ b, some b0 = some b → ∃ k B, aget S.bx k = some B ∧ blkOf (σ k) = some b := by
    intro b e; injection e with e; subst e; exact ⟨k1, B0, h0, hb0⟩
  have hb := h.readable (k1 := some k1) (σ' := σ) (fun _ _ h => h) g hrow hk (fun k B b he hg hbb => by
    injection he with he; subst he
    exact .inr (by rw [← hb0, hbb]))
  refine h.step (k1 := some k1) (σ' := σ) (fun _ _ h => h) g hrow (fun k B hg hne => ⟨hk k B hg hne, fun b e hbb => ?_⟩) fun k B he hg => ?_
  · injection e with e; subst e
    exact hne (by rw [h.dist k k1 B B0 b0 (hk k B hg hne) h0 hbb hb0])
  · injection he with he; subst he
    rw [aget_aput, if_pos rfl] at hg
    injection hg with hg; subst hg
    refine ⟨hB hb, fun b hbb => ?_⟩
    have := (h.own k1 B0 b h0 hbb).1
    exact ⟨Nat.lt_of_lt_of_le this g.size, .inr (by rw [← hb0, hbb])⟩

/-- An own box taken up by a new one (append). -/
theorem Rel.swap {k0 k1 : Nat} {B0 B1 : Box} {v1 : Value} (h : Rel E σ S a w) (h0 : aget S.bx k0 = some B0) (hf : σ k1 = none) (g : w.grownBy w' (blkOf (σ k0)))
    (hblk : ∀ b, blkOf (some v1) = some b → b < w'.heap.size ∧ (w.heap.size ≤ b ∨ blkOf (σ k0) = some b))
    (hB : (∀ b, b < w.heap.size → ¬ badOf E σ S.bx b → ¬ badOf E (fun k => if k = k1 then some v1 else σ k) (aput (adel S.bx k0) k1 B1) b ∧ w'.heap[b]? = w.heap[b]?) →
      BRel (fun k => if k = k1 then some v1 else σ k) w' (badOf E (fun k => if k = k1 then some v1 else σ k) (aput (adel S.bx k0) k1 B1)) k1 B1) :
    Rel E (fun k => if k = k1 then some v1 else σ k) { S with bx := aput (adel S.bx k0) k1 B1 } a w' := by
  have hσ : ∀ k v, σ k = some v → (fun k => if k = k1 then some v1 else σ k) k = some v := by
    intro k v hv
    show (if k = k1 then some v1 else σ k) = some v
    rw [if_neg (fun e => by rw [e, hf] at hv; cases hv)]; exact hv
  have hk : ∀ k B, aget (aput (adel S.bx k0) k1 B1) k = some B → some k ≠ some k1 → k ≠ k0 ∧ aget S.bx k = some B := by
    intro k B hg hne
    rw [aget_aput, if_neg (fun e => hne (by rw [e])), aget_adel] at hg
    by_cases hk0 : k = k0
    · rw [if_pos hk0] at hg; cases hg
    · rw [if_neg hk0] at hg; exact ⟨hk0, hg⟩
  have hrow : ∀ b, blkOf (σ k0) = some b → ∃ k B, aget S.bx k = some B ∧ blkOf (σ k) = some b := fun b e => ⟨k0, B0, h0, e⟩
  have hb := h.readable (k1 := some k1) hσ g hrow (fun k B hg hne => (hk k B hg hne).2) (fun k B b he hg hbb => by
    injection he with he; subst he
    exact (hblk b (by simpa using hbb)).2)
  refine h.step (k1 := some k1) hσ g hrow (fun k B hg hne => ⟨(hk k B hg hne).2, fun b e hbb => ?_⟩) fun k B he hg => ?_
  · exact (hk k B hg hne).1 (h.dist k k0 B B0 b (hk k B hg hne).2 h0 hbb e)
  · injection he with he; subst he
    rw [aget_aput, if_pos rfl] at hg
    injection hg with hg; subst hg
    exact ⟨hB hb, fun b hbb => hblk b (by simpa using hbb)⟩
end
end Go.Hb

/-
  THE SYMBOLIC LAYER, PART C: operations that leave the memory alone: what is known of their value ('evR'), and that the model's run hands back just such a value.
-/
namespace Go.Hb
open Go.RowKit

/-- All of them hold. -/
def AllP : List Prop → Prop
  | [] => True
  | p :: l => p ∧ AllP l

theorem allP_append {l m : List Prop} : AllP (l ++ m) ↔ AllP l ∧ AllP m := by
  induction l with
  | nil => simp [AllP]
  | cons p l ih => simp [AllP, ih, and_assoc]

/-- What a script says of one operation: nothing; the bool that it comes to; the value that it comes to. -/
inductive Ans where
  | no
  | dec (b : Bool)
  | val (s : V)

section
variable (P : Program)

def agT (t : TypeId) : Option Bool :=
  match P.underlying t with
  | some (.struct _) => some true
  | some (.array _ _) => some true
  | some _ => some false
  | none => none

def szT (t : TypeId) : Option Nat :=
  match P.info? t with
  | some i => some i.size
  | none => none

/-- An operand's value. -/
def evo (fr : List (Nat × V)) : Operand → Option V
  | .tmp t => aget fr t
  | .const v => match ofConst v with
    | .junk => none
    | s => some s
  | .func f => some (.fn f [])
  | .global _ => none

def loadL (t : TypeId) (l : List V) (off : Nat) : Option V :=
  match agT P t with
  | some true => match szT P t with
    | some sz => match Nat.beq off 0 && Nat.beq sz l.length with
      | true => some (.agg l)
      | false => match Nat.ble (off + sz) l.length with
        | true => some (.agg ((l.drop off).take sz))
        | false => none
    | none => none
  | some false => l[off]?
  | none => none

/-- What a told value of a load owes. -/
def loadOb (t : TypeId) (l : List V) (off : Nat) (r : V) : Option (List Prop) :=
  match agT P t with
  | some true => match szT P t with
    | some sz => some [off + sz ≤ l.length, r = .agg ((l.drop off).take sz)]
    | none => none
  | some false => some [l[off]? = some r]
  | none => none

def loadA (t : TypeId) (l : List V) (off : Nat) : Ans → Option (V × List Prop)
  | .val r => match loadOb P t l off r with
    | some obs => some (r, obs)
    | none => none
  | _ => match loadL P t l off with
    | some r => some (r, [])
    | none => none

def evLoad (S : St) (t : TypeId) (x : Operand) (ans : Ans) : Option (V × List Prop) :=
  match evo S.fr x with
  | some (.ptr k off) => match aget S.bx k with
    | some (.cells _ l) => loadA P t l off ans
    | _ => none
  | some (.elp _ _ f i off) => loadA P t (f i) off ans
  | some (.rfp l off) => loadA P t l off ans
  | some (.vptr k sz i off) => match aget S.bx k with
    | some (.vec _ sz' n f) => match Nat.beq sz sz' with
      | true => match loadA P t (f i) off ans with
        | some (r, obs) => some (r, (i < n) :: obs)
        | none => none
      | false => none
    | _ => none
  | _ => none

/-- An address so many cells further on. -/
def V.shift (d : Nat) : V → Option V
  | .ptr k off => some (.ptr k (off + d))
  | .elp sz n f i off => some (.elp sz n f i (off + d))
  | .rfp l off => some (.rfp l (off + d))
  | .vptr k sz i off => some (.vptr k sz i (off + d))
  | _ => none

def evFieldAddr (S : St) (t : TypeId) (x : Operand) (field : Nat) : Option V :=
  match P.underlying t with
  | some (.struct fs) => match fs[field]? with
    | some f => match szT P f.type with
      | some (_ + 1) => match evo S.fr x with
        | some s => s.shift f.offset
        | none => none
      | _ => none
    | none => none
  | _ => none

def evIndexAddr (S : St) (t : TypeId) (x ix : Operand) : Option (V × List Prop) :=
  match evo S.fr ix with
  | some (.int _ i) => match P.underlying t with
    | some (.slice e) => match szT P e with
      | some sz => match evo S.fr x with
        | some (.seq sz' n f) => match Nat.beq sz sz' with
          | true => some (.elp sz n f i.toNat 0, [0 ≤ i ∧ i < (n : Int)])
          | false => none
        | some (.row k off len _) => some (.ptr k (off + i.toNat * sz), [0 ≤ i ∧ i < (len : Int)])
        | some (.vec k) => match aget S.bx k with
          | some (.vec _ sz' n _) => match Nat.beq sz sz' with
            | true => some (.vptr k sz i.toNat 0, [0 ≤ i ∧ i < (n : Int)])
            | false => none
          | _ => none
        | _ => none
      | none => none
    | some (.array len e) => match szT P e with
      | some sz => match evo S.fr x with
        | some s => match s.shift (i.toNat * sz) with
          | some r => some (r, [0 ≤ i ∧ i < (len : Int)])
          | none => none
        | none => none
      | none => none
    | _ => none
  | _ => none
end

section
variable {P : Program} {E : Env} {σ : Nat → Option Value} {S V0 : St} {a : Act} {w : World}

theorem run_isAgg {t : TypeId} {b : Bool} (h : agT P t = some b) (w : World) : (isAgg t).run P w = .ok b w := by
  unfold agT at h
  cases hd : P.underlying t with
  | none => rw [hd] at h; cases h
  | some d =>
    rw [hd] at h
    cases d <;> simp at h <;> subst h <;> simp [isAgg, run_underlying hd]

theorem run_sizeOf {t : TypeId} {n : Nat} (h : szT P t = some n) (w : World) : (sizeOf t).run P w = .ok n w := by
  unfold szT at h
  cases hi : P.info? t with
  | none => rw [hi] at h; cases h
  | some i =>
    rw [hi] at h
    simp at h
    simp [sizeOf, typeInfo, hi, h]

structure Sub (V S : St) : Prop where
  nt : V.nt = S.nt
  fr : ∀ t s, aget V.fr t = some s → aget S.fr t = some s
  bx : ∀ k B, aget V.bx k = some B → aget S.bx k = some B

theorem Sub.refl (S : St) : Sub S S := ⟨rfl, fun _ _ h => h, fun _ _ h => h⟩

theorem evo_ok (hs : Sub V0 S) (h : Rel E σ S a w) {x : Operand} {s : V} (he : evo V0.fr x = some s) : CV σ w (badOf E σ S.bx) s (a.eval x) := by
  cases x with
  | tmp t =>
    obtain ⟨v, hv, hc⟩ := h.fr t s (hs.fr t s he)
    have : a.eval (.tmp t) = v := by simp [Act.eval, hv]
    rw [this]; exact hc
  | const v =>
    simp only [evo] at he
    have hj : ofConst v ≠ .junk := by intro e; rw [e] at he; cases he
    have hs' : s = ofConst v := by
      revert he; generalize ofConst v = q at hj ⊢
      cases q <;> first | (intro he; simpa using he.symm) | exact absurd rfl hj
    subst hs'
    exact .data (ofConst_ok w _ v hj)
  | func f =>
    simp only [evo] at he
    injection he with he; subst he
    exact .data (.fn #[] (fun _ => undef) rfl (by simp) (by simp))
  | global g => simp [evo] at he

/-- Cells that lie in a row. -/
def Lies (w : World) (b o m : Nat) (u : Nat → Value) : Prop := ∀ j, j < m → w.cell? ⟨b, o + j, none⟩ = some (u j)

theorem addr_add (b o n : Nat) : (⟨b, o, none⟩ : Addr).add n = ⟨b, o + n, none⟩ := by
  unfold Addr.add; split <;> simp_all

theorem run_loadCells_lies {b o m : Nat} {u : Nat → Value} (h : Lies w b o m u) (off sz : Nat) (hle : off + sz ≤ m) :
    (loadCells ⟨b, o + off, none⟩ sz).run P w = .ok ((List.range sz).map fun j => u (off + j)).toArray w := by
  have := run_loadCells_list (P := P) w ⟨b, o + off, none⟩ ((List.range sz).map fun j => u (off + j)) (fun j v hv => by
    rw [addr_add, Nat.add_assoc]
    have hj : j < sz := by simpa using (List.getElem?_eq_some_iff.1 hv).1
    rw [h (off + j) (by omega)]
    rw [← hv]; simp [hj])
  simpa using this

theorem loadOb_ok {t : TypeId} {l : List V} {off : Nat} {r : V} {obs : List Prop} {bad : Nat → Prop} (h : loadOb P t l off r = some obs) (ho : AllP obs)
    {b o : Nat} {u : Nat → Value} (hl : Lies w b o l.length u) (hc : ∀ (j : Nat) (s : V), l[j]? = some s → CV σ w bad s (u j)) (h1 : ∀ j, j < l.length → (u j).oneCell' = true) :
    ∃ v, (loadVar t ⟨b, o + off, none⟩).run P w = .ok v w ∧ CV σ w bad r v := by
  unfold loadOb at h
  split at h
  · rename_i hag
    split at h
    · rename_i sz hsz
      injection h with h; subst h
      obtain ⟨hle, hr, _⟩ := ho
      subst hr
      refine ⟨.agg ((List.range sz).map fun j => u (off + j)).toArray, ?_, ?_⟩
      · simp [loadVar, run_isAgg hag, run_sizeOf hsz, run_loadCells_lies hl off sz hle]
      · have hlen : ((l.drop off).take sz).length = sz := by simp; omega
        refine .agg _ (fun j => u (off + j)) (by simp; omega) (fun j hj => ?_) (fun j hj => ?_) fun j s hj => ?_
        · rw [hlen] at hj; simp [hj]
        · rw [hlen] at hj; exact h1 _ (by omega)
        · have hjs : j < sz := by have := (List.getElem?_eq_some_iff.1 hj).1; rw [hlen] at this; exact this
          refine hc (off + j) s ?_
          rw [List.getElem?_take, if_pos hjs, List.getElem?_drop] at hj
          exact hj
    · cases h
  · rename_i hag
    injection h with h; subst h
    obtain ⟨hr, _⟩ := ho
    have hlt := (List.getElem?_eq_some_iff.1 hr).1
    refine ⟨u off, ?_, hc off r hr⟩
    simp [loadVar, run_isAgg hag, load, Sem.run, hl off hlt]
  · cases h

theorem loadA_ok {t : TypeId} {l : List V} {off : Nat} {r : V} {obs : List Prop} {ans : Ans} {bad : Nat → Prop} (h : loadA P t l off ans = some (r, obs)) (ho : AllP obs)
    {b o : Nat} {u : Nat → Value} (hl : Lies w b o l.length u) (hc : ∀ (j : Nat) (s : V), l[j]? = some s → CV σ w bad s (u j)) (h1 : ∀ j, j < l.length → (u j).oneCell' = true) :
    ∃ v, (loadVar t ⟨b, o + off, none⟩).run P w = .ok v w ∧ CV σ w bad r v := by
  have plain : ∀ r, loadL P t l off = some r → ∃ obs, loadOb P t l off r = some obs ∧ AllP obs := by
    intro r hr
    unfold loadL at hr
    unfold loadOb
    split at hr
    · split at hr
      · rename_i sz hsz
        split at hr
        · rename_i hz
          simp only [Bool.and_eq_true, Nat.beq_eq] at hz
          injection hr with hr
          refine ⟨_, rfl, ?_, ?_, trivial⟩
          · omega
          · rw [← hr, hz.1, hz.2]; simp
        · split at hr
          · rename_i hle
            have hle' := Nat.le_of_ble_eq_true hle
            injection hr with hr
            exact ⟨_, rfl, hle', hr.symm, trivial⟩
          · cases hr
      · cases hr
    · exact ⟨_, rfl, hr, trivial⟩
    · cases hr
  unfold loadA at h
  split at h
  · split at h
    · rename_i obs' hob
      injection h with h
      injection h with h1' h2'
      subst h1' h2'
      exact loadOb_ok hob ho hl hc h1
    · cases h
  · split at h
    · rename_i hr
      injection h with h
      injection h with h1' h2'
      subst h1' h2'
      obtain ⟨obs', h3, h4⟩ := plain _ hr
      exact loadOb_ok h3 h4 hl hc h1
    · cases h

theorem BRel.lies_cells {bad : Nat → Prop} {k ty : Nat} {l : List V} (h : BRel σ w bad k (.cells ty l)) :
    ∃ b u, σ k = some (.pointer (some ⟨b, 0, none⟩)) ∧ Lies w b 0 l.length u ∧ (∀ (j : Nat) (s : V), l[j]? = some s → CV σ w bad s (u j)) ∧ ∀ j, j < l.length → (u j).oneCell' = true := by
  cases h with
  | cells b cs hk hh hs hc =>
    refine ⟨b, fun j => cs.getD j undef, hk, fun j hj => ?_, fun j s hj => ?_, fun j hj => ?_⟩
    · simp [World.cell?, hh, hs, hj]
    · obtain ⟨v, hv, h2, _⟩ := hc j s hj
      simpa [hv] using h2
    · obtain ⟨v, hv, _, h3⟩ := hc j l[j] (List.getElem?_eq_getElem hj)
      simpa [hv] using h3

theorem BRel.lies_vec {bad : Nat → Prop} {k ty sz n : Nat} {f : Nat → List V} (h : BRel σ w bad k (.vec ty sz n f)) {i : Nat} (hi : i < n) :
    ∃ b c u, σ k = some (.slice (some ⟨b, 0, none⟩) n c) ∧ Lies w b (i * sz) (f i).length u ∧ (∀ (j : Nat) (s : V), (f i)[j]? = some s → CV σ w bad s (u j)) ∧ ∀ j, j < (f i).length → (u j).oneCell' = true := by
  cases h with
  | vec v xs hk ho hl hc =>
    obtain ⟨hlen, h2⟩ := ho
    rcases h2 with ⟨_, h0⟩ | ⟨g, cap, cur, rfl, _, hg, hnc, _, hcur, htake⟩
    · omega
    · refine ⟨g, cap, fun j => xs.getD (i * sz + j) undef, hk, fun j hj => ?_, fun j s hj => ?_, fun j hj => ?_⟩
      · rw [hl i hi] at hj
        have hlt : i * sz + j < n * sz := by
          have : (i + 1) * sz ≤ n * sz := Nat.mul_le_mul_right sz hi
          rw [Nat.add_mul] at this; omega
        have hx : xs[i * sz + j]? = some (xs.getD (i * sz + j) undef) := by simp [List.getD, List.getElem?_eq_getElem (show i * sz + j < xs.length by omega)]
        rw [cell_of_row w g _ cur ty (0, 0) hg, ← hx, ← htake, List.getElem?_take, if_pos hlt]
        simp
      · obtain ⟨x, hx, h3⟩ := hc i j s hi hj
        exact .data (by simpa [hx] using h3)
      · obtain ⟨x, hx, h4⟩ := hc i j _ hi (List.getElem?_eq_getElem hj)
        simpa [hx] using h4.oneCell

theorem CD.lies_seq {bad : Nat → Prop} {sz n : Nat} {f : Nat → List V} {b o c : Nat} (h : CD w bad (.seq sz n f) (.slice (some ⟨b, o, none⟩) n c)) {i : Nat} (hi : i < n) :
    ∃ u, Lies w b (o + i * sz) (f i).length u ∧ (∀ (j : Nat) (s : V), (f i)[j]? = some s → CD w bad s (u j)) ∧ ∀ j, j < (f i).length → (u j).oneCell' = true := by
  cases h with
  | seq _ b' o' c u ho hnc hl hc hd =>
    have he := ho (by omega)
    injection he with he
    injection he with h1 h2
    subst h1 h2
    refine ⟨u i, fun j hj => ?_, fun j s hj => hd i j s hi hj, fun j hj => (hd i j _ hi (List.getElem?_eq_getElem hj)).oneCell⟩
    rw [Nat.add_assoc]
    exact (hc i j hi (by rw [← hl i hi]; exact hj)).2

theorem evLoad_ok {t : TypeId} {x : Operand} {ans : Ans} {r : V} {obs : List Prop} (he : evLoad P V0 t x ans = some (r, obs)) (ho : AllP obs) (hs : Sub V0 S) (h : Rel E σ S a w) :
    ∃ v, (Instr.loadAt t (a.eval x)).run P w = .ok v w ∧ CV σ w (badOf E σ S.bx) r v := by
  unfold evLoad at he
  split at he
  · rename_i k off hx
    have hv := evo_ok hs h hx
    split at he
    · rename_i ty l hk
      obtain ⟨b, u, hσ, hl, hc, h1⟩ := (h.box k _ (hs.bx _ _ hk)).lies_cells
      obtain ⟨v, hrun, hcv⟩ := loadA_ok he ho hl hc h1
      refine ⟨v, ?_, hcv⟩
      generalize a.eval x = y at hv ⊢
      cases hv with
      | data hd => cases hd
      | ptr b' hb' =>
        rw [hσ] at hb'
        injection hb' with hb'
        injection hb' with hb'
        injection hb' with hb'
        injection hb' with hb'
        subst hb'
        rw [Nat.zero_add] at hrun
        simpa [Instr.loadAt, Instr.sureAddr] using hrun
    · cases he
  · rename_i hx
    have hv := evo_ok hs h hx
    generalize a.eval x = y at hv ⊢
    cases hv with
    | data hd => cases hd
    | elp b o c hd hi =>
      obtain ⟨u, hl, hc, h1⟩ := hd.lies_seq hi
      obtain ⟨v, hrun, hcv⟩ := loadA_ok (σ := σ) he ho hl (fun j s hj => .data (hc j s hj)) h1
      refine ⟨v, ?_, hcv⟩
      rw [Nat.add_assoc] at hrun
      simpa [Instr.loadAt, Instr.sureAddr] using hrun
  · rename_i l off hx
    have hv := evo_ok hs h hx
    generalize a.eval x = y at hv ⊢
    cases hv with
    | data hd =>
      cases hd with
      | rfp b o u hc hd =>
        obtain ⟨v, hrun, hcv⟩ := loadA_ok (σ := σ) he ho (fun j hj => (hc j hj).2) (fun j s hj => .data (hd j s hj)) (fun j hj => (hd j _ (List.getElem?_eq_getElem hj)).oneCell)
        exact ⟨v, by simpa [Instr.loadAt, Instr.sureAddr] using hrun, hcv⟩
  · rename_i k sz i off hx
    have hv := evo_ok hs h hx
    split at he
    · rename_i ty sz' n f hk
      split at he
      · rename_i hsz
        rw [Nat.beq_eq] at hsz
        subst hsz
        split at he
        · rename_i r' obs' hl'
          injection he with he
          injection he with h1' h2'
          subst h1' h2'
          have hi : i < n := ho.1
          obtain ⟨b, c, u, hσ, hl, hc, h1⟩ := (h.box k _ (hs.bx _ _ hk)).lies_vec hi
          obtain ⟨v, hrun, hcv⟩ := loadA_ok hl' ho.2 hl hc h1
          refine ⟨v, ?_, hcv⟩
          generalize a.eval x = y at hv ⊢
          cases hv with
          | data hd => cases hd
          | vptr b' n' c' hb' =>
            rw [hσ] at hb'
            injection hb' with hb'
            injection hb' with hb'
            injection hb' with hb'
            injection hb' with hb'
            subst hb'
            simpa [Instr.loadAt, Instr.sureAddr] using hrun
        · cases he
      · cases he
    · cases he
  · cases he

theorem shift_ok {bad : Nat → Prop} {s r : V} {d : Nat} (he : s.shift d = some r) {v : Value} (hv : CV σ w bad s v) : ∃ b o, v = .pointer (some ⟨b, o, none⟩) ∧ CV σ w bad r (.pointer (some ⟨b, o + d, none⟩)) := by
  cases hv with
  | data hd =>
    cases hd with
    | rfp b o u hc hd =>
      simp only [V.shift] at he
      injection he with he; subst he
      exact ⟨b, _, rfl, by rw [Nat.add_assoc]; exact .data (.rfp b o u hc hd)⟩
    | _ => simp [V.shift] at he
  | ptr b h =>
    simp only [V.shift] at he
    injection he with he; subst he
    exact ⟨b, _, rfl, .ptr b h⟩
  | vptr b n c h =>
    simp only [V.shift] at he
    injection he with he; subst he
    exact ⟨b, _, rfl, by rw [Nat.add_assoc]; exact .vptr b n c h⟩
  | elp b o c h hi =>
    simp only [V.shift] at he
    injection he with he; subst he
    exact ⟨b, _, rfl, by rw [Nat.add_assoc, Nat.add_assoc]; exact .elp b o c h hi⟩
  | _ => simp [V.shift] at he

theorem evFieldAddr_ok {t : TypeId} {x : Operand} {field : Nat} {r : V} (he : evFieldAddr P V0 t x field = some r) (hs : Sub V0 S) (h : Rel E σ S a w) :
    ∃ v, (Instr.fieldAt t (a.eval x) field).run P w = .ok v w ∧ CV σ w (badOf E σ S.bx) r v := by
  unfold evFieldAddr at he
  split at he
  · rename_i fs ht
    split at he
    · rename_i f hf
      split at he
      · rename_i n hsz
        split at he
        · rename_i s hx
          obtain ⟨b, o, hv, hr⟩ := shift_ok he (evo_ok hs h hx)
          refine ⟨_, ?_, hr⟩
          rw [hv]
          simp [Instr.fieldAt, run_underlying ht, hf, Instr.sureAddr, fieldPlace, run_sizeOf hsz, addr_add]
        · cases he
      · cases he
    · cases he
  · cases he

theorem evIndexAddr_ok {t : TypeId} {x ix : Operand} {r : V} {obs : List Prop} (he : evIndexAddr P V0 t x ix = some (r, obs)) (ho : AllP obs) (hs : Sub V0 S) (h : Rel E σ S a w) :
    ∃ v, (Instr.indexAt t (a.eval x) (a.eval ix)).run P w = .ok v w ∧ CV σ w (badOf E σ S.bx) r v := by
  unfold evIndexAddr at he
  split at he
  · rename_i k i hix
    have hvi := evo_ok hs h hix
    generalize a.eval ix = yi at hvi ⊢
    cases hvi with
    | data hd =>
      cases hd
      split at he
      · rename_i e ht
        split at he
        · rename_i sz hsz
          split at he
          · rename_i sz' n f hx
            split at he
            · rename_i hz
              rw [Nat.beq_eq] at hz
              subst hz
              injection he with he
              injection he with h1 h2
              subst h1 h2
              have hi : 0 ≤ i ∧ i < (n : Int) := ho.1
              have hv := evo_ok hs h hx
              generalize a.eval x = y at hv ⊢
              cases hv with
              | data hd =>
                have hd0 := hd
                cases hd with
                | seq o b off c u hoo hnc hl hc hd =>
                  obtain rfl := hoo (by omega)
                  refine ⟨_, ?_, .elp b off c hd0 (by omega)⟩
                  simp [Instr.indexAt, asIntOf, run_underlying ht, hi, run_sizeOf hsz, addr_add]
            · cases he
          · rename_i kk off len cap hx
            injection he with he
            injection he with h1 h2
            subst h1 h2
            have hi : 0 ≤ i ∧ i < (len : Int) := ho.1
            have hv := evo_ok hs h hx
            generalize a.eval x = y at hv ⊢
            cases hv with
            | data hd => cases hd
            | row b hb =>
              refine ⟨_, ?_, .ptr b hb⟩
              simp [Instr.indexAt, asIntOf, run_underlying ht, hi, run_sizeOf hsz, addr_add]
          · rename_i kk hx
            split at he
            · rename_i ty sz' n f hk
              split at he
              · rename_i hz
                rw [Nat.beq_eq] at hz
                subst hz
                injection he with he
                injection he with h1 h2
                subst h1 h2
                have hi : 0 ≤ i ∧ i < (n : Int) := ho.1
                obtain ⟨b, c, u, hσ, _⟩ := (h.box kk _ (hs.bx _ _ hk)).lies_vec (i := i.toNat) (by omega)
                have hv := evo_ok hs h hx
                generalize a.eval x = y at hv ⊢
                cases hv with
                | data hd => cases hd
                | vec v hb =>
                  rw [hσ] at hb
                  injection hb with hb
                  subst hb
                  refine ⟨_, ?_, .vptr b n c hσ⟩
                  simp [Instr.indexAt, asIntOf, run_underlying ht, hi, run_sizeOf hsz, addr_add]
              · cases he
            · cases he
          · cases he
        · cases he
      · rename_i len e ht
        split at he
        · rename_i sz hsz
          split at he
          · rename_i s hx
            split at he
            · rename_i r' hr'
              injection he with he
              injection he with h1 h2
              subst h1 h2
              have hi : 0 ≤ i ∧ i < (len : Int) := ho.1
              obtain ⟨b, o, hv, hr⟩ := shift_ok hr' (evo_ok hs h hx)
              refine ⟨_, ?_, hr⟩
              rw [hv]
              simp [Instr.indexAt, asIntOf, run_underlying ht, hi, run_sizeOf hsz, Instr.sureAddr, addr_add]
            · cases he
          · cases he
        · cases he
      · cases he
  · cases he
end
end Go.Hb

/-
  THE SYMBOLIC LAYER, PART D: more operations that leave the memory alone: arithmetic, comparisons, conversions, cuts, lengths; all of them together: 'evR'.
-/
namespace Go.Hb
open Go.RowKit

def kIx : IntKind → Nat
  | .i8 => 0 | .i16 => 1 | .i32 => 2 | .i64 => 3 | .u8 => 4 | .u16 => 5 | .u32 => 6 | .u64 => 7
def kEq (a b : IntKind) : Bool := Nat.beq (kIx a) (kIx b)
theorem kEq_ok {a b : IntKind} (h : kEq a b = true) : a = b := by
  cases a <;> cases b <;> first | rfl | (simp [kEq, kIx] at h)

def V.asB : V → Option Bool
  | .bool b => some b
  | .tt b => some b
  | _ => none

def bitAnd (k : IntKind) (x y : Int) : Int := k.wrap (BitVec.ofInt k.bits x &&& BitVec.ofInt k.bits y).toNat
def bitOr (k : IntKind) (x y : Int) : Int := k.wrap (BitVec.ofInt k.bits x ||| BitVec.ofInt k.bits y).toNat
def bitXor (k : IntKind) (x y : Int) : Int := k.wrap (BitVec.ofInt k.bits x ^^^ BitVec.ofInt k.bits y).toNat
def shlI (k : IntKind) (x y : Int) : Int := k.wrap (x * 2 ^ (min y.toNat k.bits))
def shrI (k : IntKind) (x y : Int) : Int := x.fdiv (2 ^ (min y.toNat k.bits))
def strEq (x y : ByteArray) : Bool := x.toList == y.toList

/-- '==' on two structs or arrays comes to b. -/
def EqRun (P : Program) (t : TypeId) (l m : List V) (b : Bool) : Prop :=
  ∀ (σ : Nat → Option Value) (w : World) (bad : Nat → Prop) (x y : Value) (p q : Operand), CV σ w bad (.agg l) x → CV σ w bad (.agg m) y →
    (eqGuard .eql t p q x y).run P w = .ok () w ∧ (eqGuard .neq t p q x y).run P w = .ok () w ∧ (Op.equal t x y).run P w = .ok b w

section
variable (P : Program)

def evInt (op : BinOp) (k : IntKind) (x : Int) (k' : IntKind) (y : Int) : Option (V × List Prop) :=
  match op with
  | .shl => some (.int k (shlI k x y), [0 ≤ y])
  | .shr => some (.int k (shrI k x y), [0 ≤ y])
  | _ => match kEq k k' with
    | false => none
    | true => match op with
      | .add => some (.int k (k.wrap (x + y)), [])
      | .sub => some (.int k (k.wrap (x - y)), [])
      | .mul => some (.int k (k.wrap (x * y)), [])
      | .quo => some (.int k (k.wrap (x.tdiv y)), [y ≠ 0])
      | .rem => some (.int k (x.tmod y), [y ≠ 0])
      | .and => some (.int k (bitAnd k x y), [])
      | .or => some (.int k (bitOr k x y), [])
      | .xor => some (.int k (bitXor k x y), [])
      | .eql => some (.bool (x == y), [])
      | .neq => some (.bool (x != y), [])
      | .lss => some (.bool (decide (x < y)), [])
      | .leq => some (.bool (decide (x ≤ y)), [])
      | .gtr => some (.bool (decide (x > y)), [])
      | .geq => some (.bool (decide (x ≥ y)), [])
      | _ => none

/-- A value against nil (of a slice, of a function): is it? -/
def evNilS (t : TypeId) (s : V) : Option (Bool × List Prop) :=
  match P.underlying t with
  | some (.slice _) => match s with
    | .nilsl => some (true, [])
    | .esl => some (false, [])
    | .seq _ n _ => some (false, [0 < n])
    | .row _ _ _ _ => some (false, [])
    | _ => none
  | _ => none
def evNilF (t : TypeId) (s : V) : Option (Bool × List Prop) :=
  match P.underlying t with
  | some (.func _ _ _) => match s with
    | .fn _ _ => some (false, [])
    | .nilfn => some (true, [])
    | _ => none
  | _ => none

def evEq (op : BinOp) : Option (Bool × List Prop) → Option (V × List Prop)
  | some (b, obs) => match op with
    | .eql => some (.tt b, obs)
    | .neq => some (.tt (!b), obs)
    | _ => none
  | none => none

def evBin (op : BinOp) (t : TypeId) (s r : V) (ans : Ans) : Option (V × List Prop) :=
  match s, r with
  | .int k x, .int k' y => evInt op k x k' y
  | .str x, .str y => match op with
    | .add => some (.str (x ++ y), [((x.size + y.size : Nat) : Int) ≤ IntKind.i64.max])
    | .eql => some (.bool (strEq x y), [])
    | .neq => some (.bool (!strEq x y), [])
    | _ => none
  | .agg l, .agg m => match ans with
    | .val (.bool b) => match op with
      | .eql => some (.bool b, [EqRun P t l m b])
      | .neq => some (.bool (!b), [EqRun P t l m b])
      | _ => none
    | _ => none
  | s, .nilsl => evEq op (evNilS P t s)
  | s, .nilfn => evEq op (evNilF P t s)
  | s, r => match s.asB, r.asB, P.underlying t with
    | some x, some y, some .bool => match op with
      | .eql => some (.bool (x == y), [])
      | .neq => some (.bool (x != y), [])
      | _ => none
    | _, _, _ => none

def evUn (op : UnOp) (s : V) : Option V :=
  match op, s with
  | .not, .bool b => some (.bool (!b))
  | .not, .tt b => some (.tt (!b))
  | .neg, .int k x => some (.int k (k.wrap (0 - x)))
  | _, _ => none

def evConv (src dst : TypeId) (s : V) : Option V :=
  match P.underlying src, P.underlying dst, s with
  | some (.int _), some (.int k), .int _ x => some (.int k (k.wrap x))
  | some .string, some .string, .str x => some (.str x)
  | _, _, _ => none

def loBound : Option V → Option Int
  | none => some 0
  | some (.int _ i) => some i
  | _ => none
def hiBound (d : Nat) : Option V → Option Int
  | none => some d
  | some (.int _ i) => some i
  | _ => none

def optV (fr : List (Nat × V)) : Option Operand → Option (Option V)
  | none => some none
  | some x => match evo fr x with
    | some s => some (some s)
    | none => none

def evSlice (S : St) (t : TypeId) (x : Operand) (lo hi mx : Option Operand) : Option (V × List Prop) :=
  match mx with
  | some _ => none
  | none => match optV S.fr lo, optV S.fr hi with
    | some lo, some hi => match evo S.fr x with
      | some (.str s) => match P.underlying t, loBound lo, hiBound s.size hi with
        | some .string, some l, some h => some (.str (s.extract l.toNat h.toNat), [0 ≤ l ∧ l ≤ h, h ≤ (s.size : Int)])
        | _, _, _ => none
      | some (.seq sz n f) => match P.underlying t, loBound lo, hiBound n hi with
        | some (.slice e), some l, some h => match szT P e with
          | some sz' => match Nat.beq sz sz' with
            | true => some (.seq sz (h.toNat - l.toNat) (fun i => f (l.toNat + i)), [0 ≤ l ∧ l ≤ h, h ≤ (n : Int)])
            | false => none
          | none => none
        | _, _, _ => none
      | some (.vec k) => match P.underlying t, loBound lo, hi, aget S.bx k with
        | some (.slice e), some l, none, some (.vec _ sz n _) => match szT P e with
          | some sz' => match Nat.beq sz sz' with
            | true => some (.tail k sz l.toNat, [0 ≤ l, l < (n : Int)])
            | false => none
          | none => none
        | _, _, _, _ => none
      | _ => none
    | _, _ => none

def evList (fr : List (Nat × V)) : List Operand → Option (List V)
  | [] => some []
  | x :: l => match evo fr x, evList fr l with
    | some s, some r => some (s :: r)
    | _, _ => none

def evLen (S : St) (t : TypeId) (s : V) : Option V :=
  match P.underlying t with
  | some .string => match s with
    | .str s => some (.int .i64 s.size)
    | _ => none
  | some (.slice _) => match s with
    | .seq _ n _ => some (.int .i64 n)
    | .row _ _ n _ => some (.int .i64 n)
    | .nilsl => some (.int .i64 0)
    | .esl => some (.int .i64 0)
    | .vec k => match aget S.bx k with
      | some (.vec _ _ n _) => some (.int .i64 n)
      | _ => none
    | _ => none
  | some (.map _ _) => match s with
    | .map k => match aget S.bx k with
      | some (.mapB n _) => some (.int .i64 n)
      | some (.mapI n _) => some (.int .i64 n)
      | _ => none
    | _ => none
  | _ => none

def evBuiltin (S : St) (b : Builtin) (ts : Array TypeId) (args : List Operand) : Option V :=
  match b, evList S.fr args with
  | .len, some [s] => match ts.toList with
    | t :: _ => evLen P S t s
    | [] => none
  | .min, some [.int k x, .int k' y] => match kEq k k' with
    | true => some (.int k (if y < x then y else x))
    | false => none
  | .max, some [.int k x, .int k' y] => match kEq k k' with
    | true => some (.int k (if y > x then y else x))
    | false => none
  | _, _ => none

def evIndex (S : St) (t : TypeId) (x ix : Operand) (ans : Ans) : Option (V × List Prop) :=
  match evo S.fr ix with
  | some (.int _ i) => match evo S.fr x with
    | some (.agg l) => match P.underlying t with
      | some (.array len e) => match szT P e with
        | some sz => match loadA P e l (i.toNat * sz) ans with
          | some (r, obs) => some (r, (0 ≤ i ∧ i < (len : Int)) :: obs)
          | none => none
        | none => none
      | _ => none
    | some (.str s) => match P.underlying t with
      | some .string => some (.int .u8 ((s.data.getD i.toNat 0).toNat : Nat), [0 ≤ i ∧ i < (s.size : Int)])
      | _ => none
    | _ => none
  | _ => none

def evField (S : St) (t : TypeId) (x : Operand) (field : Nat) : Option (V × List Prop) :=
  match P.underlying t with
  | some (.struct fs) => match fs[field]? with
    | some f => match evo S.fr x with
      | some (.agg l) => loadA P f.type l f.offset .no
      | _ => none
    | none => none
  | _ => none

/-- What a nil check lets by. -/
def V.sure : V → Bool
  | .ptr _ _ | .elp _ _ _ _ _ | .rfp _ _ | .vptr _ _ _ _ | .fn _ _ => true
  | _ => false

def evR (S : St) (op : Op) (ans : Ans) : Option (V × List Prop) :=
  match op with
  | .move x => match evo S.fr x with
    | some s => some (s, [])
    | none => some (.junk, [])
  | .assign x => match evo S.fr x with
    | some s => some (s, [])
    | none => some (.junk, [])
  | .pick c a b => match evo S.fr c with
    | some (.tt true) => match evo S.fr a with
      | some s => some (s, [])
      | none => some (.junk, [])
    | some (.tt false) => match evo S.fr b with
      | some s => some (s, [])
      | none => some (.junk, [])
    | some (.bool c) => match evo S.fr a, evo S.fr b with
      | some x, some y => match x.asB, y.asB with
        | some x, some y => some (.bool (bif c then x else y), [])
        | _, _ => none
      | _, _ => none
    | _ => none
  | .load t x => evLoad P S t x ans
  | .nilCheck x => match evo S.fr x with
    | some s => match s.sure with
      | true => some (s, [])
      | false => none
    | none => none
  | .binOp op t x y _ => match evo S.fr x, evo S.fr y with
    | some s, some r => evBin P op t s r ans
    | _, _ => none
  | .unOp op _ x => match evo S.fr x with
    | some s => match evUn op s with
      | some r => some (r, [])
      | none => none
    | none => none
  | .convert src dst x => match evo S.fr x with
    | some s => match evConv P src dst s with
      | some r => some (r, [])
      | none => none
    | none => none
  | .makeFunc (.func f) first caps => match first.toList, evList S.fr caps.toList with
    | [], some l => some (.fn f l, [])
    | _, _ => none
  | .slice t x lo hi mx => evSlice P S t x lo hi mx
  | .fieldAddr t x f => match evFieldAddr P S t x f with
    | some r => some (r, [])
    | none => none
  | .field t x f => evField P S t x f
  | .indexAddr t x i => evIndexAddr P S t x i
  | .index t x i => evIndex P S t x i ans
  | .extract x i => match evo S.fr x with
    | some (.tup l) => match l[i]? with
      | some s => some (s, [])
      | none => none
    | _ => none
  | .call c => match c.callee with
    | .builtin b => match evBuiltin P S b c.argTypes c.args.toList with
      | some r => some (r, [])
      | none => none
    | _ => none
  | _ => none
end

section
variable {P : Program} {E : Env} {σ : Nat → Option Value} {S V0 : St} {a : Act} {w : World} {bad : Nat → Prop}

theorem eqGuard_plain (op : BinOp) (t : TypeId) (p q : Operand) {x y : Value} (h : (∀ z, x ≠ .agg z) ∨ (∀ z, y ≠ .agg z)) (h' : x ≠ .nilIface ∨ y ≠ .nilIface) : (eqGuard op t p q x y).run P w = .ok () w := by
  cases x <;> cases y <;> first
    | (simp at h; done)
    | (simp at h'; done)
    | (cases op <;> rfl)

theorem asB_ok {s : V} {b : Bool} (h : s.asB = some b) {v : Value} (hv : CV σ w bad s v) : v = .bool b := by
  cases hv with
  | data hd => cases hd <;> simp [V.asB] at h <;> subst h <;> rfl
  | _ => simp [V.asB] at h

theorem run_evInt {op : BinOp} {t : TypeId} {k k' : IntKind} {x y : Int} {r : V} {obs : List Prop} (h : evInt op k x k' y = some (r, obs)) (ho : AllP obs) :
    ∃ v, (binOp op t (.int k x) (.int k' y)).run P w = .ok v w ∧ CD w bad r v := by
  unfold evInt at h
  split at h
  · injection h with h; injection h with h1 h2; subst h1 h2
    have h0 : ¬ y < 0 := by have := ho.1; omega
    exact ⟨_, by simp [binOp, Op.shift, h0]; rfl, .int⟩
  · injection h with h; injection h with h1 h2; subst h1 h2
    have h0 : ¬ y < 0 := by have := ho.1; omega
    exact ⟨_, by simp [binOp, Op.shift, h0]; rfl, .int⟩
  · rename_i hs1 hs2
    split at h
    · cases h
    · rename_i hk
      obtain rfl := kEq_ok hk
      cases op <;> first
        | (exact absurd rfl hs1)
        | (exact absurd rfl hs2)
        | (simp at h; done)
        | (simp only [Option.some.injEq, Prod.mk.injEq] at h
           obtain ⟨h1, h2⟩ := h
           subst h1 h2
           refine ⟨_, ?_, by first | exact .int | exact .bool⟩
           first
             | (simp [binOp, Op.intArith]; done)
             | (have h0 := ho.1; simp [binOp, Op.intDiv, h0]; done)
             | (simp [binOp, Op.intBits]; rfl)
             | (simp [binOp, Op.intCmp]; done))

theorem equal_at (t : TypeId) (x y : Value) : Op.equal t x y = Op.equalIn (9999 + 1) t x y := rfl
theorem run_equalIn_slice (d : Nat) {t e : TypeId} (ht : P.underlying t = some (.slice e)) (o : Option Addr) (n c : Nat) : (Op.equalIn (d + 1) t (.slice o n c) (.slice none 0 0)).run P w = .ok o.isNone w := by
  cases o <;> simp [Op.equalIn, run_underlying ht]
theorem run_equalIn_fn (d : Nat) {t : TypeId} {e1 e2 : Array TypeId} {e3 : Bool} (ht : P.underlying t = some (.func e1 e2 e3)) (f : Fn) (l c : Array Value) : (Op.equalIn (d + 1) t (.func f l c) .nilFunc).run P w = .ok false w := by
  simp [Op.equalIn, run_underlying ht]
theorem run_equalIn_nilfn (d : Nat) {t : TypeId} {e1 e2 : Array TypeId} {e3 : Bool} (ht : P.underlying t = some (.func e1 e2 e3)) : (Op.equalIn (d + 1) t .nilFunc .nilFunc).run P w = .ok true w := by
  simp [Op.equalIn, run_underlying ht]
theorem run_equalIn_bool (d : Nat) {t : TypeId} (ht : P.underlying t = some .bool) (x y : Bool) : (Op.equalIn (d + 1) t (.bool x) (.bool y)).run P w = .ok (x == y) w := by
  simp [Op.equalIn, run_underlying ht]

theorem run_evNilS {t : TypeId} {s : V} {b : Bool} {obs : List Prop} (h : evNilS P t s = some (b, obs)) (ho : AllP obs) {v : Value} (hv : CV σ w bad s v) :
    (Op.equal t v (.slice none 0 0)).run P w = .ok b w ∧ ∃ o n c, v = .slice o n c := by
  unfold evNilS at h
  split at h
  · rename_i e ht
    have hr : ∀ (o : Option Addr) n c, (Op.equal t (.slice o n c) (.slice none 0 0)).run P w = .ok o.isNone w := by
      intro o n c
      rw [equal_at]; exact run_equalIn_slice _ ht o n c
    split at h
    · injection h with h; injection h with h1 h2; subst h1 h2
      cases hv with
      | data hd => cases hd; exact ⟨hr _ _ _, _, _, _, rfl⟩
    · injection h with h; injection h with h1 h2; subst h1 h2
      cases hv with
      | data hd => cases hd; exact ⟨hr _ _ _, _, _, _, rfl⟩
    · injection h with h; injection h with h1 h2; subst h1 h2
      cases hv with
      | data hd =>
        cases hd with
        | seq o b off c u hoo => obtain rfl := hoo ho.1; exact ⟨hr _ _ _, _, _, _, rfl⟩
    · injection h with h; injection h with h1 h2; subst h1 h2
      cases hv with
      | data hd => cases hd
      | row b hb => exact ⟨hr _ _ _, _, _, _, rfl⟩
    · cases h
  · cases h

theorem run_evNilF {t : TypeId} {s : V} {b : Bool} {obs : List Prop} (h : evNilF P t s = some (b, obs)) {v : Value} (hv : CV σ w bad s v) :
    (Op.equal t v .nilFunc).run P w = .ok b w ∧ (v = .nilFunc ∨ ∃ f l c, v = .func f l c) := by
  unfold evNilF at h
  split at h
  · rename_i e1 e2 e3 ht
    split at h
    · injection h with h; injection h with h1 h2; subst h1 h2
      cases hv with
      | data hd => cases hd; exact ⟨by rw [equal_at]; exact run_equalIn_fn _ ht _ _ _, .inr ⟨_, _, _, rfl⟩⟩
      | fn => exact ⟨by rw [equal_at]; exact run_equalIn_fn _ ht _ _ _, .inr ⟨_, _, _, rfl⟩⟩
    · injection h with h; injection h with h1 h2; subst h1 h2
      cases hv with
      | data hd => cases hd; exact ⟨by rw [equal_at]; exact run_equalIn_nilfn _ ht, .inl rfl⟩
    · cases h
  · cases h

theorem evEq_ok {op : BinOp} {q : Option (Bool × List Prop)} {r : V} {obs : List Prop} (h : evEq op q = some (r, obs)) :
    ∃ b, q = some (b, obs) ∧ ((op = .eql ∧ r = .tt b) ∨ (op = .neq ∧ r = .tt (!b))) := by
  unfold evEq at h
  split at h
  · split at h
    · injection h with h; injection h with h1 h2; subst h1 h2; exact ⟨_, rfl, .inl ⟨rfl, rfl⟩⟩
    · injection h with h; injection h with h1 h2; subst h1 h2; exact ⟨_, rfl, .inr ⟨rfl, rfl⟩⟩
    · cases h
  · cases h

theorem run_evBin {op : BinOp} {t : TypeId} {s r0 r : V} {ans : Ans} {obs : List Prop} (h : evBin P op t s r0 ans = some (r, obs)) (ho : AllP obs) {x y : Value} (p q : Operand) (hx : CV σ w bad s x) (hy : CV σ w bad r0 y) :
    ∃ v, (do eqGuard op t p q x y; binOp op t x y).run P w = .ok v w ∧ CV σ w bad r v := by
  unfold evBin at h
  split at h
  · -- ints
    cases hx with
    | data hd => cases hd; cases hy with
      | data hd => cases hd
                   obtain ⟨v, h1, h2⟩ := run_evInt (bad := bad) (t := t) (w := w) (P := P) h ho
                   exact ⟨v, by simp only [Sem.run_bind, eqGuard_plain op t p q (x := .int _ _) (y := .int _ _) (.inl (by simp)) (.inl (by simp)), Result.andThen_ok, h1], .data h2⟩
  · -- strings
    cases hx with
    | data hd => cases hd; cases hy with
      | data hd =>
        cases hd
        split at h
        · injection h with h; injection h with h1 h2; subst h1 h2
          have hb := ho.1
          exact ⟨_, by simp only [Sem.run_bind, eqGuard_plain _ t p q (x := .string _) (y := .string _) (.inl (by simp)) (.inl (by simp)), Result.andThen_ok]; unfold binOp Op.stringOp; simp only []; rw [if_neg (by omega)]; rfl, .data .str⟩
        · injection h with h; injection h with h1 h2; subst h1 h2
          exact ⟨_, by simp only [Sem.run_bind, eqGuard_plain _ t p q (x := .string _) (y := .string _) (.inl (by simp)) (.inl (by simp)), Result.andThen_ok]; simp [binOp, Op.stringOp]; rfl, .data .bool⟩
        · injection h with h; injection h with h1 h2; subst h1 h2
          exact ⟨_, by simp only [Sem.run_bind, eqGuard_plain _ t p q (x := .string _) (y := .string _) (.inl (by simp)) (.inl (by simp)), Result.andThen_ok]; simp [binOp, Op.stringOp]; rfl, .data .bool⟩
        · cases h
  · -- structs
    split at h
    · split at h
      · injection h with h; injection h with h1 h2; subst h1 h2
        obtain ⟨g1, g2, g3⟩ := ho.1 σ w bad x y p q hx hy
        cases hx with
        | agg vs u hs hv h1 hd => cases hy with
          | agg vs' u' hs' hv' h1' hd' => exact ⟨_, by simp only [Sem.run_bind, g1, Result.andThen_ok]; simp only [binOp, Sem.run_bind, g3, Result.andThen_ok]; rfl, .data .bool⟩
          | data hd => cases hd
        | data hd => cases hd
      · injection h with h; injection h with h1 h2; subst h1 h2
        obtain ⟨g1, g2, g3⟩ := ho.1 σ w bad x y p q hx hy
        cases hx with
        | agg vs u hs hv h1 hd => cases hy with
          | agg vs' u' hs' hv' h1' hd' => exact ⟨_, by simp only [Sem.run_bind, g2, Result.andThen_ok]; simp only [binOp, Sem.run_bind, g3, Result.andThen_ok]; rfl, .data .bool⟩
          | data hd => cases hd
        | data hd => cases hd
      · cases h
    · cases h
  · -- nil slices
    obtain ⟨b, hb, hop⟩ := evEq_ok h
    cases hy with
    | data hd =>
      cases hd
      obtain ⟨hrun, o, n, c, rfl⟩ := run_evNilS hb ho hx
      rcases hop with ⟨rfl, rfl⟩ | ⟨rfl, rfl⟩
      · exact ⟨_, by simp only [Sem.run_bind, eqGuard_plain _ t p q (x := .slice _ _ _) (y := .slice _ _ _) (.inl (by simp)) (.inl (by simp)), Result.andThen_ok]; simp only [binOp, Sem.run_bind, hrun, Result.andThen_ok]; rfl, .data .tt⟩
      · exact ⟨_, by simp only [Sem.run_bind, eqGuard_plain _ t p q (x := .slice _ _ _) (y := .slice _ _ _) (.inl (by simp)) (.inl (by simp)), Result.andThen_ok]; simp only [binOp, Sem.run_bind, hrun, Result.andThen_ok]; rfl, .data .tt⟩
  · -- nil functions
    obtain ⟨b, hb, hop⟩ := evEq_ok h
    cases hy with
    | data hd =>
      cases hd
      obtain ⟨hrun, hxx⟩ := run_evNilF hb hx
      have hg : ∀ op, (eqGuard op t p q x .nilFunc).run P w = .ok () w := fun op => eqGuard_plain _ t p q (.inr (by simp)) (.inr (by simp))
      rcases hxx with rfl | ⟨f, l, c, rfl⟩ <;> rcases hop with ⟨rfl, rfl⟩ | ⟨rfl, rfl⟩ <;>
        exact ⟨_, by simp only [Sem.run_bind, hg, Result.andThen_ok]; simp only [binOp, Sem.run_bind, hrun, Result.andThen_ok]; rfl, .data .tt⟩
  · -- bools
    split at h
    · rename_i bx by' hbx hby ht
      obtain rfl := asB_ok hbx hx
      obtain rfl := asB_ok hby hy
      have hg : ∀ op, (eqGuard op t p q (.bool bx) (.bool by')).run P w = .ok () w := fun op => eqGuard_plain _ t p q (.inr (by simp)) (.inr (by simp))
      split at h
      · injection h with h; injection h with h1 h2; subst h1 h2
        exact ⟨_, by simp only [Sem.run_bind, hg, Result.andThen_ok]; simp only [binOp, equal_at, Sem.run_bind, run_equalIn_bool _ ht, Result.andThen_ok]; rfl, .data .bool⟩
      · injection h with h; injection h with h1 h2; subst h1 h2
        exact ⟨_, by simp only [Sem.run_bind, hg, Result.andThen_ok]; simp only [binOp, equal_at, Sem.run_bind, run_equalIn_bool _ ht, Result.andThen_ok]; rfl, .data .bool⟩
      · cases h
    · cases h
end
end Go.Hb

/-
  THE SYMBOLIC LAYER, PART E: 'evR' is right: the model's run of an operation that leaves the memory alone hands back what 'evR' says.
-/
namespace Go.Hb
open Go.RowKit
section
variable {P : Program} {E : Env} {σ : Nat → Option Value} {S V0 : St} {a : Act} {w : World} {bad : Nat → Prop}

theorem run_evUn {op : UnOp} {s r : V} (h : evUn op s = some r) {x : Value} (hx : CV σ w bad s x) : ∃ v, (Op.unary op x).run P w = .ok v w ∧ CV σ w bad r v := by
  unfold evUn at h
  split at h
  · injection h with h; subst h
    cases hx with
    | data hd => cases hd; exact ⟨_, rfl, .data .bool⟩
  · injection h with h; subst h
    cases hx with
    | data hd => cases hd; exact ⟨_, rfl, .data .tt⟩
  · injection h with h; subst h
    cases hx with
    | data hd => cases hd; exact ⟨_, rfl, .data .int⟩
  · cases h

theorem run_evConv {src dst : TypeId} {s r : V} (h : evConv P src dst s = some r) {x : Value} (hx : CV σ w bad s x) : ∃ v, (convert src dst x).run P w = .ok v w ∧ CV σ w bad r v := by
  unfold evConv at h
  split at h
  · rename_i k1 k2 k3 n hs hd
    injection h with h; subst h
    cases hx with
    | data hx => cases hx; exact ⟨_, by simp [convert, run_underlying hs, run_underlying hd, Conv.intToInt], .data .int⟩
  · rename_i s hs hd
    injection h with h; subst h
    cases hx with
    | data hx => cases hx; exact ⟨_, by simp [convert, run_underlying hs, run_underlying hd], .data .str⟩
  · cases h

theorem run_sliceBound {i : Int} {k : IntKind} {m : Nat} (h0 : 0 ≤ i) (h : i ≤ m) (code : BoundsCode) : (Instr.sliceBound (.int k i) m code).run P w = .ok i.toNat w := by
  simp [Instr.sliceBound, asIntOf, h0, h]

/-- What 'optV' says of an optional operand. -/
theorem optV_none {fr : List (Nat × V)} {x : Option Operand} (h : optV fr x = some none) : x = none := by
  cases x with
  | none => rfl
  | some y => simp only [optV] at h; cases hv : evo fr y <;> rw [hv] at h <;> simp at h
theorem optV_some {fr : List (Nat × V)} {x : Option Operand} {s : V} (h : optV fr x = some (some s)) : ∃ y, x = some y ∧ evo fr y = some s := by
  cases x with
  | none => simp [optV] at h
  | some y =>
    simp only [optV] at h
    cases hv : evo fr y with
    | none => rw [hv] at h; simp at h
    | some s' => rw [hv] at h; simp at h; subst h; exact ⟨y, rfl, hv⟩

theorem bound_lo (hs : Sub V0 S) (h : Rel E σ S a w) {x : Option Operand} {s : Option V} {l : Int} (h1 : optV V0.fr x = some s) (h2 : loBound s = some l) :
    (x = none ∧ l = 0) ∨ ∃ y k, x = some y ∧ a.eval y = .int k l := by
  unfold loBound at h2
  split at h2
  · injection h2 with h2; exact .inl ⟨optV_none h1, h2.symm⟩
  · injection h2 with h2; subst h2
    obtain ⟨y, rfl, hy⟩ := optV_some h1
    have := evo_ok hs h hy
    generalize hv : a.eval y = v at this
    cases this with
    | data hd => cases hd; exact .inr ⟨y, _, rfl, hv⟩
  · cases h2

theorem bound_hi (hs : Sub V0 S) (h : Rel E σ S a w) {x : Option Operand} {s : Option V} {l : Int} {d : Nat} (h1 : optV V0.fr x = some s) (h2 : hiBound d s = some l) :
    (x = none ∧ l = d) ∨ ∃ y k, x = some y ∧ a.eval y = .int k l := by
  unfold hiBound at h2
  split at h2
  · injection h2 with h2; exact .inl ⟨optV_none h1, h2.symm⟩
  · injection h2 with h2; subst h2
    obtain ⟨y, rfl, hy⟩ := optV_some h1
    have := evo_ok hs h hy
    generalize hv : a.eval y = v at this
    cases this with
    | data hd => cases hd; exact .inr ⟨y, _, rfl, hv⟩
  · cases h2

theorem run_sliceBounds {lo hi : Option Operand} {l h : Int} {len cap : Nat} (isS : Bool) (hlo : (lo = none ∧ l = 0) ∨ ∃ y k, lo = some y ∧ a.eval y = .int k l) (hhi : (hi = none ∧ h = len) ∨ ∃ y k, hi = some y ∧ a.eval y = .int k h)
    (h0 : 0 ≤ l ∧ l ≤ h) (h1 : h ≤ (len : Int)) (hc : len ≤ cap) : (Instr.sliceBounds isS len cap (lo.map a.eval) (hi.map a.eval) none).run P w = .ok (l.toNat, h.toNat, cap) w := by
  have hh : h.toNat ≤ cap := by omega
  have hl : l ≤ (h.toNat : Int) := by omega
  rcases hhi with ⟨rfl, rfl⟩ | ⟨y, k, rfl, hy⟩ <;> rcases hlo with ⟨rfl, rfl⟩ | ⟨z, k', rfl, hz⟩
  · simp [Instr.sliceBounds]
  · simp [Instr.sliceBounds, hz, run_sliceBound h0.1 (show l ≤ (len : Int) by omega)]
  · simp [Instr.sliceBounds, hy, run_sliceBound (show 0 ≤ h by omega) (show h ≤ (cap : Int) by omega)]
  · simp [Instr.sliceBounds, hy, hz, run_sliceBound (show 0 ≤ h by omega) (show h ≤ (cap : Int) by omega), run_sliceBound h0.1 hl]

theorem CD.cut {sz n : Nat} {f : Nat → List V} {o : Option Addr} {c : Nat} (h : CD w bad (.seq sz n f) (.slice o n c)) {l m : Nat} (hlm : l ≤ m) (hm : m ≤ n) :
    CD w bad (.seq sz (m - l) fun i => f (l + i)) (.slice (if c = l then o else o.map (·.add (l * sz))) (m - l) (c - l)) := by
  cases h with
  | seq _ b off _ u ho hnc hl hc hd hz =>
    have hz' : (if c = l then o else o.map (·.add (l * sz))) = none → c - l = 0 := by
      intro h
      split at h
      · omega
      · have := hz (by simpa using h); omega
    refine .seq _ b (off + l * sz) _ (fun i j => u (l + i) j) (fun hp => ?_) (by omega) (fun i hi => hl _ (by omega)) (fun i j hi hj => ?_) (fun i j s hi hs => hd _ j s (by omega) hs) hz'
    · have := ho (by omega)
      rw [if_neg (by omega), this]
      simp [addr_add]
    · have := hc (l + i) j (by omega) hj
      rw [Nat.add_mul, Nat.add_assoc (l * sz), ← Nat.add_assoc off] at this
      exact this

theorem run_evSlice {t : TypeId} {x : Operand} {lo hi mx : Option Operand} {r : V} {obs : List Prop} (h : evSlice P V0 t x lo hi mx = some (r, obs)) (ho : AllP obs) (hs : Sub V0 S) (hr : Rel E σ S a w) :
    ∃ v, (Instr.sliceAt t (a.eval x) (lo.map a.eval) (hi.map a.eval) (mx.map a.eval)).run P w = .ok v w ∧ CV σ w (badOf E σ S.bx) r v := by
  unfold evSlice at h
  split at h
  · cases h
  · split at h
    · rename_i lo' hi' hlo hhi
      split at h
      · rename_i s hx
        have hv := evo_ok hs hr hx
        generalize a.eval x = y at hv ⊢
        cases hv with
        | data hd =>
          cases hd
          split at h
          · rename_i l hh ht hl hh'
            injection h with h; injection h with h1 h2; subst h1 h2
            obtain ⟨hb1, hb2, _⟩ := ho
            refine ⟨_, ?_, .data .str⟩
            simp [Instr.sliceAt, run_underlying ht, Instr.slice, run_sliceBounds false (bound_lo hs hr hlo hl) (bound_hi hs hr hhi hh') hb1 hb2 (Nat.le_refl _)]
          · cases h
      · rename_i sz n f hx
        have hv := evo_ok hs hr hx
        generalize a.eval x = y at hv ⊢
        split at h
        · rename_i e l hh ht hl hh'
          split at h
          · rename_i sz' hsz
            split at h
            · rename_i hz
              rw [Nat.beq_eq] at hz
              subst hz
              injection h with h; injection h with h1 h2; subst h1 h2
              obtain ⟨hb1, hb2, _⟩ := ho
              cases hv with
              | data hd =>
                have hd0 := hd
                cases hd with
                | seq o b off c u hoo hnc =>
                  refine ⟨_, ?_, .data (hd0.cut (l := l.toNat) (m := hh.toNat) (by omega) (by omega))⟩
                  simp [Instr.sliceAt, run_underlying ht, Instr.slice, run_sliceBounds true (bound_lo hs hr hlo hl) (bound_hi hs hr hhi hh') hb1 hb2 hnc, run_sizeOf hsz]
            · cases h
          · cases h
        · cases h
      · rename_i k hx
        have hv := evo_ok hs hr hx
        generalize a.eval x = y at hv ⊢
        split at h
        · rename_i e l ty sz n f ht hl hbx
          split at h
          · rename_i sz' hsz
            split at h
            · rename_i hz
              rw [Nat.beq_eq] at hz
              subst hz
              injection h with h; injection h with h1 h2; subst h1 h2
              obtain ⟨hb1, hb2, _⟩ := ho
              cases hr.box k _ (hs.bx _ _ hbx) with
              | vec v' xs hk hown hlen hc =>
                rcases hown.2 with ⟨_, h0⟩ | ⟨g, cap, cur, rfl, _, hg, hnc, hcm, hcur, htake⟩
                · omega
                · have hyv : y = .slice (some ⟨g, 0, none⟩) n cap := by
                    cases hv with
                    | data hd => cases hd
                    | vec v'' hv'' => rw [hk] at hv''; injection hv'' with hv''; exact hv''.symm
                  subst hyv
                  refine ⟨_, ?_, .tail g n cap hk (show l.toNat < n by omega)⟩
                  have hne : ¬ cap = l.toNat := by omega
                  simp [Instr.sliceAt, run_underlying ht, Instr.slice, run_sliceBounds (h := (n : Int)) true (bound_lo hs hr hlo hl) (bound_hi hs hr hhi rfl) (by omega) (Int.le_refl _) hnc, run_sizeOf hsz, hne, Addr.add]
                  exact fun h0 => h0.symm
            · cases h
          · cases h
        · cases h
      · cases h
    · cases h

theorem run_evLen {t : TypeId} {s r : V} (h : evLen P V0 t s = some r) (hs : Sub V0 S) (hr : Rel E σ S a w) {x : Value} (hx : CV σ w (badOf E σ S.bx) s x) (ts : List TypeId) (ty : TypeId) :
    ∃ v, (Builtin.len_ (t :: ts).toArray ty #[x]).run P w = .ok v w ∧ CV σ w (badOf E σ S.bx) r v := by
  unfold evLen at h
  split at h
  · rename_i ht
    split at h
    · injection h with h; subst h
      cases hx with
      | data hd => cases hd; exact ⟨_, by simp [Builtin.len_, run_underlying ht, goInt], .data .int⟩
    · cases h
  · rename_i e ht
    have hlen : ∀ o n c, (Builtin.len_ (t :: ts).toArray ty #[.slice o n c]).run P w = .ok (.int .i64 n) w := by
      intro o n c; simp [Builtin.len_, run_underlying ht, goInt]
    split at h
    · injection h with h; subst h
      cases hx with
      | data hd => cases hd; exact ⟨_, hlen _ _ _, .data .int⟩
    · injection h with h; subst h
      cases hx with
      | data hd => cases hd
      | row b hb => exact ⟨_, hlen _ _ _, .data .int⟩
    · injection h with h; subst h
      cases hx with
      | data hd => cases hd; exact ⟨_, hlen _ _ _, .data .int⟩
    · injection h with h; subst h
      cases hx with
      | data hd => cases hd; exact ⟨_, hlen _ _ _, .data .int⟩
    · rename_i k
      split at h
      · rename_i ty' sz n f hk
        injection h with h; subst h
        cases hx with
        | data hd => cases hd
        | vec v hb =>
          have hbox := hr.box k _ (hs.bx _ _ hk)
          cases hbox with
          | vec v' xs hk' hown hl hc =>
            rw [hk'] at hb
            injection hb with hb; subst hb
            rcases hown.2 with ⟨rfl, h0⟩ | ⟨g, cap, cur, rfl, _⟩
            · subst h0; exact ⟨_, hlen _ _ _, .data .int⟩
            · exact ⟨_, hlen _ _ _, .data .int⟩
      · cases h
    · cases h
  · rename_i e1 e2 ht
    have hmap : ∀ k n r (val : Int → Option Value), σ k = some (.map (some r)) → IntMap w r n val → CV σ w (badOf E σ S.bx) (.map k) x → (Builtin.len_ (t :: ts).toArray ty #[x]).run P w = .ok (.int .i64 n) w := by
      intro k n r val hσ hm hx
      cases hx with
      | data hd => cases hd
      | map r' hb =>
        rw [hσ] at hb
        injection hb with hb; injection hb with hb; injection hb with hb; subst hb
        obtain ⟨es, clock, h1, h2, _⟩ := hm
        simp [Builtin.len_, run_underlying ht, goInt, getObj, Sem.run, h1, h2]
    split at h
    · rename_i k
      split at h
      · rename_i n m hk
        injection h with h; subst h
        have hbox := hr.box k _ (hs.bx _ _ hk)
        cases hbox with
        | mapB r hk' hm => exact ⟨_, hmap k n r _ hk' hm hx, .data .int⟩
      · rename_i n m hk
        injection h with h; subst h
        have hbox := hr.box k _ (hs.bx _ _ hk)
        cases hbox with
        | mapI r hk' hm => exact ⟨_, hmap k n r _ hk' hm hx, .data .int⟩
      · cases h
    · cases h
  · cases h

theorem evList_ok (hs : Sub V0 S) (hr : Rel E σ S a w) : ∀ {l : List Operand} {r : List V}, evList V0.fr l = some r →
    r.length = l.length ∧ ∀ (j : Nat) (s : V), r[j]? = some s → ∃ x, l[j]? = some x ∧ CV σ w (badOf E σ S.bx) s (a.eval x)
  | [], r, h => by simp [evList] at h; subst h; simp
  | x :: l, r, h => by
    unfold evList at h
    split at h
    · rename_i s r' h1 h2
      injection h with h; subst h
      obtain ⟨h3, h4⟩ := evList_ok hs hr h2
      refine ⟨by simp [h3], fun j s' hj => ?_⟩
      cases j with
      | zero => simp at hj; subst hj; exact ⟨x, by simp, evo_ok hs hr h1⟩
      | succ j => simpa using h4 j s' (by simpa using hj)
    · cases h

theorem run_evBuiltin {b : Builtin} {ts : Array TypeId} {args : List Operand} {r : V} (h : evBuiltin P V0 b ts args = some r) (hs : Sub V0 S) (hr : Rel E σ S a w) (ty : TypeId) (cs : Array Bool) :
    ∃ v, (builtin b ts ty cs (args.map a.eval).toArray).run P w = .ok (.value v) w ∧ CV σ w (badOf E σ S.bx) r v := by
  unfold evBuiltin at h
  split at h
  · rename_i s hl
    obtain ⟨h1, h2⟩ := evList_ok hs hr hl
    obtain ⟨x, rfl⟩ : ∃ x, args = [x] := by
      match args, h1 with
      | [x], _ => exact ⟨x, rfl⟩
    obtain ⟨y, hy, hc⟩ := h2 0 s rfl
    simp at hy; subst hy
    split at h
    · rename_i t ts' hts
      obtain ⟨v, h3, h4⟩ := run_evLen h hs hr hc ts' ty
      refine ⟨v, ?_, h4⟩
      have : ts = (t :: ts').toArray := by rw [← hts]
      subst this
      simp only [builtin, List.map_cons, List.map_nil, Sem.run_bind, h3, Result.andThen_ok]; rfl
    · cases h
  · rename_i k x k' y hl
    obtain ⟨h1, h2⟩ := evList_ok hs hr hl
    obtain ⟨p, q, rfl⟩ : ∃ p q, args = [p, q] := by
      match args, h1 with
      | [p, q], _ => exact ⟨p, q, rfl⟩
    obtain ⟨p', hp, hcp⟩ := h2 0 _ rfl
    obtain ⟨q', hq, hcq⟩ := h2 1 _ rfl
    simp at hp hq; subst hp hq
    split at h
    · rename_i hk
      obtain rfl := kEq_ok hk
      injection h with h; subst h
      simp only [List.map_cons, List.map_nil]
      generalize a.eval p = vp at hcp ⊢
      generalize a.eval q = vq at hcq ⊢
      cases hcp with
      | data hd => cases hd; cases hcq with
        | data hd => cases hd; exact ⟨_, by simp [builtin, Builtin.min_, Builtin.min2], .data .int⟩
    · cases h
  · rename_i k x k' y hl
    obtain ⟨h1, h2⟩ := evList_ok hs hr hl
    obtain ⟨p, q, rfl⟩ : ∃ p q, args = [p, q] := by
      match args, h1 with
      | [p, q], _ => exact ⟨p, q, rfl⟩
    obtain ⟨p', hp, hcp⟩ := h2 0 _ rfl
    obtain ⟨q', hq, hcq⟩ := h2 1 _ rfl
    simp at hp hq; subst hp hq
    split at h
    · rename_i hk
      obtain rfl := kEq_ok hk
      injection h with h; subst h
      simp only [List.map_cons, List.map_nil]
      generalize a.eval p = vp at hcp ⊢
      generalize a.eval q = vq at hcq ⊢
      cases hcp with
      | data hd => cases hd; cases hcq with
        | data hd => cases hd; exact ⟨_, by simp [builtin, Builtin.max_, Builtin.max2], .data .int⟩
    · cases h
  · cases h

/-- A part of a value. -/
theorem run_part {t : TypeId} {l : List V} {off : Nat} {r : V} {obs : List Prop} {ans : Ans} (h : loadA P t l off ans = some (r, obs)) (ho : AllP obs) {v : Value} (hv : CV σ w bad (.agg l) v) :
    ∃ vs, v = .agg vs ∧ ∃ v', (part t vs off).run P w = .ok v' w ∧ CV σ w bad r v' := by
  cases hv with
  | data hd => cases hd
  | agg vs u hs hvs h1 hd =>
    refine ⟨vs, rfl, ?_⟩
    -- a memory in which the parts lie
    have key : ∀ (obs : List Prop), loadOb P t l off r = some obs → AllP obs → ∃ v', (part t vs off).run P w = .ok v' w ∧ CV σ w bad r v' := by
      intro obs hob ho
      unfold loadOb at hob
      split at hob
      · rename_i hag
        split at hob
        · rename_i sz hsz
          injection hob with hob; subst hob
          obtain ⟨hle, hr, _⟩ := ho
          subst hr
          refine ⟨.agg (vs.extract off (off + sz)), by simp [part, run_isAgg hag, run_sizeOf hsz], ?_⟩
          have hlen : ((l.drop off).take sz).length = sz := by simp; omega
          refine .agg _ (fun j => u (off + j)) (by simp; omega) (fun j hj => ?_) (fun j hj => ?_) fun j s hj => ?_
          · rw [hlen] at hj
            rw [Array.getElem?_extract, if_pos (by omega)]
            exact hvs _ (by omega)
          · rw [hlen] at hj; exact h1 _ (by omega)
          · have hjs : j < sz := by have := (List.getElem?_eq_some_iff.1 hj).1; rw [hlen] at this; exact this
            refine hd (off + j) s ?_
            rw [List.getElem?_take, if_pos hjs, List.getElem?_drop] at hj
            exact hj
        · cases hob
      · rename_i hag
        injection hob with hob; subst hob
        obtain ⟨hr, _⟩ := ho
        have hlt := (List.getElem?_eq_some_iff.1 hr).1
        refine ⟨u off, ?_, hd off r hr⟩
        simp [part, run_isAgg hag, hvs off hlt]
      · cases hob
    -- either told or found
    unfold loadA at h
    split at h
    · split at h
      · rename_i obs' hob
        injection h with h; injection h with h3 h4; subst h3 h4
        exact key _ hob ho
      · cases h
    · split at h
      · rename_i r' hr
        injection h with h; injection h with h3 h4; subst h3 h4
        have : ∃ obs, loadOb P t l off r' = some obs ∧ AllP obs := by
          unfold loadL at hr
          unfold loadOb
          split at hr
          · split at hr
            · split at hr
              · rename_i hz
                simp only [Bool.and_eq_true, Nat.beq_eq] at hz
                injection hr with hr
                exact ⟨_, rfl, by omega, by rw [← hr, hz.1, hz.2]; simp, trivial⟩
              · split at hr
                · rename_i hle
                  injection hr with hr
                  exact ⟨_, rfl, Nat.le_of_ble_eq_true hle, hr.symm, trivial⟩
                · cases hr
            · cases hr
          · exact ⟨_, rfl, hr, trivial⟩
          · cases hr
        obtain ⟨obs, h5, h6⟩ := this
        exact key _ h5 h6
      · cases h

theorem run_evIndex {t : TypeId} {x ix : Operand} {ans : Ans} {r : V} {obs : List Prop} (h : evIndex P V0 t x ix ans = some (r, obs)) (ho : AllP obs) (hs : Sub V0 S) (hr : Rel E σ S a w) :
    ∃ v, (Instr.index t (a.eval x) (a.eval ix)).run P w = .ok v w ∧ CV σ w (badOf E σ S.bx) r v := by
  unfold evIndex at h
  split at h
  · rename_i k i hix
    have hvi := evo_ok hs hr hix
    generalize a.eval ix = yi at hvi ⊢
    cases hvi with
    | data hd =>
      cases hd
      split at h
      · rename_i l hx
        have hv := evo_ok hs hr hx
        generalize a.eval x = y at hv ⊢
        split at h
        · rename_i len e ht
          split at h
          · rename_i sz hsz
            split at h
            · rename_i r' obs' hl
              injection h with h; injection h with h1 h2; subst h1 h2
              obtain ⟨vs, rfl, v', h3, h4⟩ := run_part hl ho.2 hv
              refine ⟨v', ?_, h4⟩
              have hi := ho.1
              simp [Instr.index, asIntOf, run_underlying ht, hi, run_sizeOf hsz, h3]
            · cases h
          · cases h
        · cases h
      · rename_i s hx
        have hv := evo_ok hs hr hx
        generalize a.eval x = y at hv ⊢
        split at h
        · rename_i ht
          injection h with h; injection h with h1 h2; subst h1 h2
          cases hv with
          | data hd =>
            cases hd
            obtain ⟨⟨hi0, hi1⟩, _⟩ := ho
            refine ⟨_, ?_, .data .int⟩
            have hlt : i.toNat < s.size := by omega
            have he : s[i.toNat]? = some (s.data.getD i.toNat 0) := by
              have hlt' : i.toNat < s.data.size := hlt
              rw [getElem?_pos s i.toNat hlt]
              have h1 : s.data.getD i.toNat 0 = s.data[i.toNat]'hlt' := by simp [Array.getD, hlt]
              rw [h1]; rfl
            simp [Instr.index, asIntOf, run_underlying ht, hi0, he]
        · cases h
      · cases h
  · cases h

theorem run_evField {t : TypeId} {x : Operand} {f : Nat} {r : V} {obs : List Prop} (h : evField P V0 t x f = some (r, obs)) (ho : AllP obs) (hs : Sub V0 S) (hr : Rel E σ S a w) :
    ∃ v, (Instr.field t (a.eval x) f).run P w = .ok v w ∧ CV σ w (badOf E σ S.bx) r v := by
  unfold evField at h
  split at h
  · rename_i fs ht
    split at h
    · rename_i fd hf
      split at h
      · rename_i l hx
        obtain ⟨vs, hv, v', h3, h4⟩ := run_part h ho (evo_ok hs hr hx)
        refine ⟨v', ?_, h4⟩
        rw [hv]
        simp [Instr.field, run_underlying ht, hf, asAgg, h3]
      · cases h
    · cases h
  · cases h
end
end Go.Hb

/-
  THE SYMBOLIC LAYER, PART F: operations that make or write memory: new variables, literals, stores, append.
-/
namespace Go.Hb
open Go.RowKit

/-- Cells of l from 'off' on replaced. -/
def splice (l : List V) (off : Nat) (xs : List V) : List V :=
  match Nat.beq off 0 && Nat.beq xs.length l.length with
  | true => xs
  | false => l.take off ++ xs ++ l.drop (off + xs.length)

theorem splice_eq (l : List V) (off : Nat) (xs : List V) : splice l off xs = l.take off ++ xs ++ l.drop (off + xs.length) := by
  unfold splice
  split
  · rename_i h
    simp only [Bool.and_eq_true, Nat.beq_eq] at h
    simp [h.1, h.2]
  · rfl

def allOne : List Value → Bool
  | [] => true
  | v :: l => v.oneCell' && allOne l

def consts : List Value → List V
  | [] => []
  | v :: l => ofConst v :: consts l

inductive Eff where
  | val (s : V)
  | new (B : Box) (s : V)
  | upd (k : Nat) (B : Box)
  | swap (k0 : Nat) (B : Box) (s : V)
  | upv (k : Nat) (B : Box) (s : V)
  | own (K : List Nat) (bs : List (Nat × Box)) (s : V)

/-- Boxes struck; boxes laid. -/
def delB (l : List (Nat × Box)) : List Nat → List (Nat × Box)
  | [] => l
  | k :: K => adel (delB l K) k
def putB (l : List (Nat × Box)) : List (Nat × Box) → List (Nat × Box)
  | [] => l
  | (k, B) :: bs => aput (putB l bs) k B

def St.slot (S : St) (dst : Option Nat) (s : V) : St :=
  match dst with
  | none => S
  | some t => match s with
    | .junk => { S with fr := adel S.fr t }
    | s => { S with fr := aput S.fr t s }

def Eff.app (S : St) (key : Nat) (dst : Option Nat) : Eff → St
  | .val s => S.slot dst s
  | .new B s => { S with bx := aput S.bx key B }.slot dst s
  | .upd k B => { S with bx := aput S.bx k B }.slot dst .junk
  | .swap k0 B s => { S with bx := aput (adel S.bx k0) key B }.slot dst s
  | .upv k B s => { S with bx := aput S.bx k B }.slot dst s
  | .own K bs s => { S with bx := putB (delB S.bx K) bs }.slot dst s

section
variable (P : Program)

/-- A value's cells. -/
def cellsOf (bx : List (Nat × Box)) : V → Option (List V)
  | .agg l => some l
  | .junk => none
  | .tup _ => none
  | .vec k => match aget bx k with
    | some (.vec _ _ _ _) => some [.vec k]
    | _ => none
  | s => some [s]

def zeroL (t : TypeId) : Option (List V) :=
  match P.info? t with
  | some i => match i.zero with
    | some z => match allOne z.cells.toList with
      | true => some (consts z.cells.toList)
      | false => none
    | none => none
  | none => none

def fillV (place : Nat → Option (Nat × Nat)) (cells : List V) : List (Nat × List V) → Option (List V)
  | [] => some cells
  | (i, vs) :: rest => match place i with
    | none => none
    | some (off, size) => match Nat.beq vs.length size && Nat.ble (off + vs.length) cells.length with
      | true => fillV place (splice cells off vs) rest
      | false => none

def evParts (S : St) : List (Nat × Operand) → Option (List (Nat × List V))
  | [] => some []
  | (i, x) :: l => match evo S.fr x with
    | some s => match cellsOf S.bx s with
      | some c => match evParts S l with
        | some r => some ((i, c) :: r)
        | none => none
      | none => none
    | none => none

def placesL : List Field → Option (List (Nat × Nat))
  | [] => some []
  | f :: l => match szT P f.type with
    | some sz => match placesL l with
      | some r => some ((f.offset, sz) :: r)
      | none => none
    | none => none

def evBuild (S : St) (t : TypeId) (parts : Array (Nat × Operand)) : Option V :=
  match zeroL P t, evParts S parts.toList with
  | some z, some ps => match P.underlying t with
    | some (.struct fs) => match placesL P fs.toList with
      | some pl => match fillV (fun i => pl[i]?) z ps with
        | some l => some (.agg l)
        | none => none
      | none => none
    | some (.array _ e) => match szT P e with
      | some sz => match fillV (fun i => some (i * sz, sz)) z ps with
        | some l => some (.agg l)
        | none => none
      | none => none
    | _ => none
  | _, _ => none

/-- So many times the same cells. -/
def rep : Nat → List V → List V
  | 0, _ => []
  | n + 1, l => l ++ rep n l

def evBuildSlice (S : St) (key : Nat) (t : TypeId) (len : Nat) (parts : Array (Nat × Operand)) : Option Eff :=
  match P.underlying t with
  | some (.slice e) => match szT P e, zeroL P e, evParts S parts.toList with
    | some sz, some z, some ps => match Nat.beq z.length sz && Nat.ble (len * sz) 65536 with
      | true => match fillV (fun i => some (i * sz, sz)) (rep len z) ps with
        | some l => some (.new (.cells e l) (.row key 0 len len))
        | none => none
      | false => none
    | _, _, _ => none
  | _ => none

def evStore (S : St) (t : TypeId) (x v : Operand) (ans : Ans) : Option (Eff × List Prop) :=
  match evo S.fr v with
  | some s => match cellsOf S.bx s with
    | some xs => match szT P t with
      | some sz => match Nat.beq xs.length sz with
        | true => match evo S.fr x with
          | some (.ptr k off) => match aget S.bx k with
            | some (.cells ty l) => match ans with
              | .val (.agg l') => some (.upd k (.cells ty l'), [off + xs.length ≤ l.length, l' = l.take off ++ xs ++ l.drop (off + xs.length)])
              | _ => match Nat.ble (off + xs.length) l.length with
                | true => some (.upd k (.cells ty (splice l off xs)), [])
                | false => none
            | _ => none
          | some (.vptr k sz' i off) => match aget S.bx k with
            | some (.vec ty sz'' n f) => match Nat.beq sz' sz'' && Nat.ble (off + xs.length) sz' && allD xs with
              | true => some (.upd k (.vec ty sz'' n fun j => if j = i then splice (f i) off xs else f j), [i < n])
              | false => none
            | _ => none
          | _ => none
        | false => none
      | none => none
    | none => none
  | none => none

/-- What an append takes from: elements of sz cells each. -/
def srcOf (S : St) (sz : Nat) : V → Option (Nat × (Nat → List V))
  | .nilsl => some (0, fun _ => [])
  | .esl => some (0, fun _ => [])
  | .seq sz' m g => match Nat.beq sz sz' with
    | true => some (m, g)
    | false => none
  | .row k off m _ => match aget S.bx k with
    | some (.cells _ l) => match Nat.ble (off + m * sz) l.length && allD l with
      | true => some (m, fun i => (l.drop (off + i * sz)).take sz)
      | false => none
    | _ => none
  | .vec k => match aget S.bx k with
    | some (.vec _ sz' m g) => match Nat.beq sz sz' with
      | true => some (m, g)
      | false => none
    | _ => none
  | _ => none

def joinF (n : Nat) (f g : Nat → List V) (i : Nat) : List V := if i < n then f i else g (i - n)

def evAppend (S : St) (key : Nat) (t : TypeId) (s x : V) : Option (Eff × List Prop) :=
  match P.underlying t with
  | some (.slice e) => match P.info? e, szT P e, zeroL P e with
    | some i, some sz, some z => match Nat.beq z.length sz && Nat.ble 1 sz, srcOf S sz x with
      | true, some (m, g) => match s with
        | .nilsl => some (.new (.vec e sz m g) (.vec key), [m * i.bytes ≤ 140737488355328 ∧ m ≤ maxLen])
        | .row k 0 n c => match aget S.bx k with
          | some (.cells ty l) => match Nat.beq ty e && Nat.beq (c * sz) l.length && Nat.ble n c && allD l with
            | true => some (.swap k (.vec e sz (n + m) (joinF n (fun i => (l.drop (i * sz)).take sz) g)) (.vec key), [(n + m) * i.bytes ≤ 140737488355328 ∧ n + m ≤ maxLen, c ≤ maxLen])
            | false => none
          | _ => none
        | .vec k => match aget S.bx k with
          | some (.vec ty sz' n f) => match Nat.beq ty e && Nat.beq sz sz' with
            | true => some (.swap k (.vec e sz (n + m) (joinF n f g)) (.vec key), [(n + m) * i.bytes ≤ 140737488355328 ∧ n + m ≤ maxLen])
            | false => none
          | _ => none
        | _ => none
      | _, _ => none
    | _, _, _ => none
  | _ => none
end

section
variable {P : Program} {E : Env} {σ σ' : Nat → Option Value} {S V0 : St} {a : Act} {w w' : World} {bad : Nat → Prop}

theorem Rel.slot {dst : Option Nat} {s : V} {v : Value} (h : Rel E σ S a w) (ht : ∀ t, dst = some t → t < S.nt) (hc : CV σ w (badOf E σ S.bx) s v) : Rel E σ (S.slot dst s) (a.put dst v) w := by
  unfold St.slot
  split
  · exact h
  · rename_i t
    split
    · exact h.drop v
    · exact h.put (ht t rfl) hc

theorem cellsOf_ok {s : V} {l : List V} (hs : Sub V0 S) (h : Rel E σ S a w) (hc : cellsOf V0.bx s = some l) {v : Value} (hv : CV σ w (badOf E σ S.bx) s v) :
    v.cells.size = l.length ∧ ∀ (j : Nat) (r : V), l[j]? = some r → ∃ u, v.cells[j]? = some u ∧ CV σ w (badOf E σ S.bx) r u ∧ u.oneCell' = true := by
  unfold cellsOf at hc
  split at hc
  · injection hc with hc; subst hc
    cases hv with
    | data hd => cases hd
    | agg vs u hs hvs h1 hd =>
      refine ⟨hs, fun j r hj => ?_⟩
      have hlt := (List.getElem?_eq_some_iff.1 hj).1
      exact ⟨u j, hvs j hlt, hd j r hj, h1 j hlt⟩
  · cases hc
  · cases hc
  · rename_i k
    split at hc
    · rename_i ty sz n f hk
      injection hc with hc; subst hc
      cases hv with
      | data hd => cases hd
      | vec v hb =>
        cases h.box k _ (hs.bx _ _ hk) with
        | vec v' xs hk' hown hl hcc =>
          rw [hk'] at hb
          injection hb with hb; subst hb
          have hone : v'.oneCell' = true ∧ v'.cells = #[v'] := by
            rcases hown.2 with ⟨rfl, _⟩ | ⟨g, cap, cur, rfl, _⟩ <;> exact ⟨rfl, rfl⟩
          rw [hone.2]
          refine ⟨rfl, fun j r hj => ?_⟩
          cases j with
          | zero => simp at hj; subst hj; exact ⟨v', rfl, .vec v' hk', hone.1⟩
          | succ j => simp at hj
    · cases hc
  · rename_i hn1 hn2 hn3 hn4
    injection hc with hc; subst hc
    have hone : v.oneCell' = true := hv.oneCell (by cases s <;> first | rfl | exact absurd rfl (hn1 _) | exact absurd rfl hn2 | exact absurd rfl (hn3 _) | exact absurd rfl (hn4 _))
    have hcs : v.cells = #[v] := by cases v <;> first | rfl | simp [Value.oneCell'] at hone
    rw [hcs]
    refine ⟨rfl, fun j r hj => ?_⟩
    cases j with
    | zero => simp at hj; subst hj; exact ⟨v, rfl, hv, hone⟩
    | succ j => simp at hj

theorem consts_ok (w : World) (bad : Nat → Prop) : ∀ (l : List Value), allOne l = true → (consts l).length = l.length ∧ ∀ (j : Nat) (r : V), (consts l)[j]? = some r → ∃ u, l[j]? = some u ∧ CV σ w bad r u ∧ u.oneCell' = true
  | [], _ => by simp [consts]
  | v :: l, h => by
    simp only [allOne, Bool.and_eq_true] at h
    obtain ⟨h1, h2⟩ := consts_ok w bad l h.2
    refine ⟨by simp [consts, h1], fun j r hj => ?_⟩
    cases j with
    | zero =>
      simp only [consts, List.getElem?_cons_zero, Option.some.injEq] at hj
      subst hj
      refine ⟨v, rfl, ?_, h.1⟩
      by_cases hjk : ofConst v = .junk
      · rw [hjk]; exact .junk
      · exact .data (ofConst_ok w bad v hjk)
    | succ j => simpa using h2 j r (by simpa [consts] using hj)

theorem zeroL_ok {t : TypeId} {l : List V} (h : zeroL P t = some l) (w : World) (bad : Nat → Prop) :
    ∃ i z, P.info? t = some i ∧ i.zero = some z ∧ z.cells.size = l.length ∧ ∀ (j : Nat) (r : V), l[j]? = some r → ∃ u, z.cells[j]? = some u ∧ CV σ w bad r u ∧ u.oneCell' = true := by
  unfold zeroL at h
  split at h
  · rename_i i hi
    split at h
    · rename_i z hz
      split at h
      · rename_i h1
        injection h with h; subst h
        obtain ⟨h2, h3⟩ := consts_ok (σ := σ) w bad _ h1
        refine ⟨i, z, hi, hz, by simpa using h2.symm, fun j r hj => ?_⟩
        obtain ⟨u, hu, h4⟩ := h3 j r hj
        exact ⟨u, by simpa using hu, h4⟩
      · cases h
    · cases h
  · cases h

theorem run_zeroValue {t : TypeId} {i : TypeInfo} {z : Value} (hi : P.info? t = some i) (hz : i.zero = some z) (w : World) : (zeroValue t).run P w = .ok z w := by
  simp [zeroValue, typeInfo, hi, hz]

/-- Cells that are known in part. -/
def Row (σ : Nat → Option Value) (w : World) (bad : Nat → Prop) (l : List V) (cs : Array Value) : Prop :=
  cs.size = l.length ∧ ∀ (j : Nat) (r : V), l[j]? = some r → ∃ u, cs[j]? = some u ∧ CV σ w bad r u ∧ u.oneCell' = true

theorem Row.mono (hσ : ∀ k v, σ k = some v → σ' k = some v) {bad' : Nat → Prop} (hb : ∀ b, b < w.heap.size → ¬ bad b → ¬ bad' b ∧ w'.heap[b]? = w.heap[b]?) {l : List V} {cs : Array Value} (h : Row σ w bad l cs) : Row σ' w' bad' l cs :=
  ⟨h.1, fun j r hj => by obtain ⟨u, h1, h2, h3⟩ := h.2 j r hj; exact ⟨u, h1, h2.mono hσ hb, h3⟩⟩

theorem Row.agg {l : List V} {cs : Array Value} (h : Row σ w bad l cs) : CV σ w bad (.agg l) (.agg cs) := by
  refine .agg cs (fun j => cs.getD j undef) h.1 (fun j hj => ?_) (fun j hj => ?_) fun j r hj => ?_
  · obtain ⟨u, hu, _⟩ := h.2 j _ (List.getElem?_eq_getElem hj); simp [hu]
  · obtain ⟨u, hu, _, h1⟩ := h.2 j _ (List.getElem?_eq_getElem hj); simpa [hu] using h1
  · obtain ⟨u, hu, h1, _⟩ := h.2 j r hj; simpa [hu] using h1

theorem Row.splice {l xs : List V} {cs ys : Array Value} (h : Row σ w bad l cs) (hx : Row σ w bad xs ys) (off : Nat) (hle : off + xs.length ≤ l.length) :
    Row σ w bad (l.take off ++ xs ++ l.drop (off + xs.length)) (cs.toList.take off ++ ys.toList ++ cs.toList.drop (off + ys.size)).toArray := by
  have hcl : cs.toList.length = l.length := by simpa using h.1
  have hyl : ys.toList.length = xs.length := by simpa using hx.1
  refine ⟨by simp [hx.1, h.1], fun j r hj => ?_⟩
  simp only [List.getElem?_toArray]
  rw [List.append_assoc] at hj ⊢
  rw [List.getElem?_append] at hj ⊢
  simp only [List.length_take, hcl] at *
  by_cases h1 : j < min off l.length
  · rw [if_pos h1] at hj ⊢
    rw [List.getElem?_take, if_pos (by omega)] at hj ⊢
    simpa using h.2 j r hj
  · rw [if_neg h1] at hj ⊢
    rw [List.getElem?_append] at hj ⊢
    rw [hyl]
    by_cases h2 : j - min off l.length < xs.length
    · rw [if_pos h2] at hj ⊢
      simpa using hx.2 _ r hj
    · rw [if_neg h2] at hj ⊢
      rw [List.getElem?_drop] at hj ⊢
      rw [hx.1]
      simpa using h.2 _ r hj

theorem foldl_set (xs : List Value) : ∀ (k off : Nat) (cs : Array Value), off + k + xs.length ≤ cs.size →
    ((xs.zipIdx k).foldl (fun cs (p : Value × Nat) => cs.setIfInBounds (off + p.2) p.1) cs) = (cs.toList.take (off + k) ++ xs ++ cs.toList.drop (off + k + xs.length)).toArray := by
  induction xs with
  | nil => intro k off cs _; simp
  | cons x xs ih =>
    intro k off cs hle
    simp only [List.length_cons] at hle
    simp only [List.zipIdx_cons, List.foldl_cons]
    rw [ih (k + 1) off _ (by simp; omega)]
    apply Array.ext'
    simp only [Array.toList_setIfInBounds, List.length_cons]
    rw [List.take_set, List.drop_set_of_lt (by omega)]
    have h1 : (cs.toList.take (off + (k + 1))) = cs.toList.take (off + k) ++ [cs.toList[off + k]'(by simp; omega)] := by
      rw [← Nat.add_assoc]; exact List.take_succ_eq_append_getElem (by simp; omega)
    have h3 : cs.toList.length = cs.size := by simp
    rw [h1, List.set_append_right _ _ (by rw [List.length_take]; omega), List.length_take, show off + k - min (off + k) cs.toList.length = 0 from by rw [h3, Nat.min_eq_left (by omega), Nat.sub_self]]
    simp only [List.set_cons_zero, List.append_assoc, List.cons_append, List.nil_append]
    rw [show off + (k + 1) + xs.length = off + k + (xs.length + 1) from by omega]

theorem fillV_ok {place : Nat → Option (Nat × Nat)} : ∀ {ps : List (Nat × List V)} {l r : List V} {cs : Array Value} {qs : List (Nat × Value)}, fillV place l ps = some r → Row σ w bad l cs →
    qs.length = ps.length → (∀ (j : Nat) i c, ps[j]? = some (i, c) → ∃ v, qs[j]? = some (i, v) ∧ Row σ w bad c v.cells) → ∃ ds, Instr.fill place cs qs = some ds ∧ Row σ w bad r ds
  | [], l, r, cs, qs, h, hr, hl, _ => by
    simp [fillV] at h; subst h
    match qs, hl with
    | [], _ => exact ⟨cs, rfl, hr⟩
  | (i, c) :: ps, l, r, cs, qs, h, hr, hl, hq => by
    match qs, hl with
    | q :: qs, hl =>
      obtain ⟨v, hv, hrow⟩ := hq 0 i c rfl
      simp at hv; subst hv
      unfold fillV at h
      split at h
      · cases h
      · rename_i off size hp
        split at h
        · rename_i hz
          simp only [Bool.and_eq_true, Nat.beq_eq] at hz
          have hle := Nat.le_of_ble_eq_true hz.2
          have h2 := hr.splice hrow off hle
          rw [← splice_eq] at h2
          obtain ⟨ds, h3, h4⟩ := fillV_ok (qs := qs) h h2 (by simpa using hl) (fun j i c hj => by simpa using hq (j + 1) i c (by simpa using hj))
          refine ⟨ds, ?_, h4⟩
          unfold Instr.fill
          rw [hp]
          simp only []
          rw [if_neg (by rw [hrow.1, hr.1]; simp; omega)]
          rw [← Array.foldl_toList, Array.toList_zipIdx, foldl_set v.cells.toList 0 off cs (by simp [hrow.1, hr.1]; omega)]
          simpa using h3
        · cases h

theorem evParts_ok (hs : Sub V0 S) (h : Rel E σ S a w) : ∀ {l : List (Nat × Operand)} {ps : List (Nat × List V)}, evParts V0 l = some ps →
    l.length = ps.length ∧ ∀ (j : Nat) i c, ps[j]? = some (i, c) → ∃ v, (l.map fun (p : Nat × Operand) => (p.1, a.eval p.2))[j]? = some (i, v) ∧ Row σ w (badOf E σ S.bx) c v.cells
  | [], ps, hp => by simp [evParts] at hp; subst hp; simp
  | (i, x) :: l, ps, hp => by
    unfold evParts at hp
    split at hp
    · rename_i s hx
      split at hp
      · rename_i c hc
        split at hp
        · rename_i r hr
          injection hp with hp; subst hp
          obtain ⟨h1, h2⟩ := evParts_ok hs h hr
          refine ⟨by simp [h1], fun j i' c' hj => ?_⟩
          cases j with
          | zero =>
            simp at hj
            obtain ⟨rfl, rfl⟩ := hj
            exact ⟨a.eval x, by simp, cellsOf_ok hs h hc (evo_ok hs h hx)⟩
          | succ j => simpa using h2 j i' c' (by simpa using hj)
        · cases hp
      · cases hp
    · cases hp
end
end Go.Hb
