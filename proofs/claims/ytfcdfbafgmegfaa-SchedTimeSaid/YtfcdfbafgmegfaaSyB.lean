/-
  THE SYMBOLIC LAYER, PART B: a symbolic state (slots and own boxes), what it says of an activation and a memory ('Rel'), and how it follows a memory that changes in one own block.
-/
import Derived.Test.YtfcdfbafgmegfaaSyA
namespace Go.Hb
open Go.RowKit

def aget {α : Type} : List (Nat × α) → Nat → Option α
  | [], _ => none
  | (k, x) :: l, n => match Nat.beq k n with
    | true => some x
    | false => aget l n

def adel {α : Type} : List (Nat × α) → Nat → List (Nat × α)
  | [], _ => []
  | (k, x) :: l, n => match Nat.beq k n with
    | true => adel l n
    | false => (k, x) :: adel l n

def aput {α : Type} (l : List (Nat × α)) (n : Nat) (x : α) : List (Nat × α) := (n, x) :: adel l n

theorem aget_adel {α : Type} (l : List (Nat × α)) (n m : Nat) : aget (adel l n) m = if m = n then none else aget l m := by
  induction l with
  | nil => simp [adel, aget]
  | cons p l ih =>
    obtain ⟨k, x⟩ := p
    by_cases hk : k = n
    · subst hk
      simp only [adel, Nat.beq_refl, ih, aget]
      by_cases hm : m = k
      · simp [hm]
      · have hkm : Nat.beq k m = false := by rw [← Bool.not_eq_true, Nat.beq_eq]; omega
        simp [hm, hkm]
    · have hkn : Nat.beq k n = false := by rw [← Bool.not_eq_true, Nat.beq_eq]; exact hk
      simp only [adel, hkn, aget]
      by_cases hkm : k = m
      · subst hkm
        simp [hk]
      · have hkm' : Nat.beq k m = false := by rw [← Bool.not_eq_true, Nat.beq_eq]; exact hkm
        simp only [hkm', ih]

theorem aget_aput {α : Type} (l : List (Nat × α)) (n m : Nat) (x : α) : aget (aput l n x) m = if m = n then some x else aget l m := by
  unfold aput
  by_cases h : n = m
  · subst h; simp [aget]
  · have hb : Nat.beq n m = false := by rw [← Bool.not_eq_true, Nat.beq_eq]; exact h
    simp only [aget, hb, aget_adel]
    rw [if_neg (fun e => h e.symm), if_neg (fun e => h e.symm)]

/-- An own box. -/
inductive Box where
  | cells (ty : Nat) (l : List V)
  | vec (ty sz n : Nat) (f : Nat → List V)
  | mapB (n : Nat) (m : Int → Option Bool)
  | mapI (n : Nat) (m : Int → Option Int)
  | mapF (n : Nat) (m : Int → Option Nat)
  deriving Inhabited

structure St where
  nt : Nat
  nx : Nat
  fr : List (Nat × V)
  bx : List (Nat × Box)

/-- The block of a key's box. -/
def blkOf : Option Value → Option Nat
  | some (.pointer (some a)) => some a.block
  | some (.slice (some a) _ _) => some a.block
  | some (.map (some r)) => some r
  | _ => none

/-- The entry of an int key. -/
def intEntry (n : Int) : List MapEntry → Option Value
  | [] => none
  | e :: l => match e.key with
    | .int .i64 k => if n = k then some e.val else intEntry n l
    | _ => none

/-- Int keys, each once. -/
def intKeys : List MapEntry → List Int
  | [] => []
  | e :: l => (match e.key with | .int _ k => k | _ => 0) :: intKeys l

structure IntMap (w : World) (r n : Nat) (val : Int → Option Value) : Prop where
  is : ∃ es clock, w.heap[r]? = some (.map es clock) ∧ es.size = n ∧ (∀ e ∈ es.toList, ∃ k, e.key = .int .i64 k) ∧ (intKeys es.toList).Nodup ∧ ∀ k, intEntry k es.toList = val k

inductive BRel (σ : Nat → Option Value) (w : World) (bad : Nat → Prop) (k : Nat) : Box → Prop
  | cells {ty : Nat} {l : List V} (b : Nat) (cs : Array Value) (hk : σ k = some (.pointer (some ⟨b, 0, none⟩))) (hh : w.heap[b]? = some (.cells cs ty (0, 0))) (hs : cs.size = l.length)
      (hc : ∀ (j : Nat) (s : V), l[j]? = some s → ∃ v, cs[j]? = some v ∧ CV σ w bad s v ∧ v.oneCell' = true) : BRel σ w bad k (.cells ty l)
  | vec {ty sz n : Nat} {f : Nat → List V} (v : Value) (xs : List Value) (hk : σ k = some v) (ho : w.ownsRow 0 ty sz v n xs) (hl : ∀ i, i < n → (f i).length = sz)
      (hc : ∀ (i j : Nat) (s : V), i < n → (f i)[j]? = some s → ∃ x, xs[i * sz + j]? = some x ∧ CD w bad s x) : BRel σ w bad k (.vec ty sz n f)
  | mapB {n : Nat} {m : Int → Option Bool} (r : Nat) (hk : σ k = some (.map (some r))) (h : IntMap w r n fun i => (m i).map Value.bool) : BRel σ w bad k (.mapB n m)
  | mapI {n : Nat} {m : Int → Option Int} (r : Nat) (hk : σ k = some (.map (some r))) (h : IntMap w r n fun i => (m i).map (Value.int .i64)) : BRel σ w bad k (.mapI n m)
  | mapF {n : Nat} {m : Int → Option Nat} (r : Nat) (hk : σ k = some (.map (some r))) (h : IntMap w r n fun i => (m i).map fun g => Value.func (.func g) #[] #[]) : BRel σ w bad k (.mapF n m)

/-- What the call began with: the memory, the blocks that are not its to read ('bad0') and those of before that are its to write ('wr'). -/
structure Env where
  w0 : World
  bad0 : Nat → Prop
  wr : Nat → Prop

def Env.N (E : Env) : Nat := E.w0.heap.size

def badOf (E : Env) (σ : Nat → Option Value) (bx : List (Nat × Box)) (b : Nat) : Prop := E.bad0 b ∨ ∃ k B, aget bx k = some B ∧ blkOf (σ k) = some b

/-- The memory, as far as the own boxes go. -/
structure Mem (E : Env) (σ : Nat → Option Value) (bx : List (Nat × Box)) (w : World) : Prop where
  box : ∀ k B, aget bx k = some B → BRel σ w (badOf E σ bx) k B
  own : ∀ k B b, aget bx k = some B → blkOf (σ k) = some b → b < w.heap.size ∧ ¬ E.bad0 b ∧ (E.N ≤ b ∨ E.wr b)
  dist : ∀ k k' B B' b, aget bx k = some B → aget bx k' = some B' → blkOf (σ k) = some b → blkOf (σ k') = some b → k = k'
  os : w.os = E.w0.os
  tape : w.tape = E.w0.tape
  output : w.output = E.w0.output
  size : E.N ≤ w.heap.size
  old : ∀ b, b < E.N → ¬ E.wr b → w.heap[b]? = E.w0.heap[b]?
  hbad : ∀ b, E.bad0 b → b < E.N

structure Rel (E : Env) (σ : Nat → Option Value) (S : St) (a : Act) (w : World) : Prop extends Mem E σ S.bx w where
  dfs : a.defers = []
  nt : a.tmps.size = S.nt
  fr : ∀ t s, aget S.fr t = some s → ∃ v, a.tmps[t]? = some v ∧ CV σ w (badOf E σ S.bx) s v

section
variable {E : Env} {σ σ' : Nat → Option Value} {S : St} {a : Act} {w w' : World} {bx : List (Nat × Box)}

theorem BRel.key {bad : Nat → Prop} {k : Nat} {B : Box} (h : BRel σ w bad k B) : ∃ v, σ k = some v := by cases h <;> exact ⟨_, by assumption⟩

theorem IntMap.kept {r n : Nat} {val : Int → Option Value} (h : IntMap w r n val) (e : w'.heap[r]? = w.heap[r]?) : IntMap w' r n val := by
  obtain ⟨es, clock, h1, h2⟩ := h
  exact ⟨es, clock, e.trans h1, h2⟩

theorem BRel.mono {bad bad' : Nat → Prop} {k : Nat} {B : Box} (hσ : ∀ k v, σ k = some v → σ' k = some v) (hb : ∀ b, b < w.heap.size → ¬ bad b → ¬ bad' b ∧ w'.heap[b]? = w.heap[b]?)
    (hblk : ∀ b, blkOf (σ k) = some b → w'.heap[b]? = w.heap[b]?) (h : BRel σ w bad k B) : BRel σ' w' bad' k B := by
  cases h with
  | cells b cs hk hh hs hc =>
    exact .cells b cs (hσ _ _ hk) ((hblk b (by rw [hk]; rfl)).trans hh) hs fun j s hj => by
      obtain ⟨v, h1, h2, h3⟩ := hc j s hj
      exact ⟨v, h1, h2.mono hσ hb, h3⟩
  | vec v xs hk ho hl hc =>
    refine .vec v xs (hσ _ _ hk) ?_ hl fun i j s hi hj => by
      obtain ⟨x, h1, h2⟩ := hc i j s hi hj
      exact ⟨x, h1, h2.mono hb⟩
    refine ⟨ho.1, ?_⟩
    rcases ho.2 with h0 | ⟨g, cap, cur, hv, hb0, hg, rest⟩
    · exact .inl h0
    · exact .inr ⟨g, cap, cur, hv, hb0, by rw [hblk g (by rw [hk, hv]; rfl)]; exact hg, rest⟩
  | mapB r hk h => exact .mapB r (hσ _ _ hk) (h.kept (hblk r (by rw [hk]; rfl)))
  | mapI r hk h => exact .mapI r (hσ _ _ hk) (h.kept (hblk r (by rw [hk]; rfl)))
  | mapF r hk h => exact .mapF r (hσ _ _ hk) (h.kept (hblk r (by rw [hk]; rfl)))

/-- What may be read stays as it is where one own block is written. -/
theorem Mem.readable {bx' : List (Nat × Box)} {row : Option Nat} {k1 : Option Nat} (h : Mem E σ bx w) (hσ : ∀ k v, σ k = some v → σ' k = some v) (g : w.grownBy w' row)
    (hrow : ∀ b, row = some b → ∃ k B, aget bx k = some B ∧ blkOf (σ k) = some b)
    (hk : ∀ k B, aget bx' k = some B → some k ≠ k1 → aget bx k = some B)
    (h1 : ∀ k B b, k1 = some k → aget bx' k = some B → blkOf (σ' k) = some b → w.heap.size ≤ b ∨ row = some b) :
    ∀ b, b < w.heap.size → ¬ badOf E σ bx b → ¬ badOf E σ' bx' b ∧ w'.heap[b]? = w.heap[b]? := by
  intro b hb hn
  refine ⟨?_, g.block b hb fun e => ?_⟩
  · rintro (h0 | ⟨k, B, hg, hkb⟩)
    · exact hn (.inl h0)
    · by_cases hkk : some k = k1
      · rcases h1 k B b hkk.symm hg hkb with h2 | h2
        · omega
        · obtain ⟨k', B', hg', hb'⟩ := hrow b h2
          exact hn (.inr ⟨k', B', hg', hb'⟩)
      · have hg' := hk k B hg hkk
        obtain ⟨v, hv⟩ := (h.box k B hg').key
        rw [hσ k v hv] at hkb
        exact hn (.inr ⟨k, B, hg', by rw [hv]; exact hkb⟩)
  · obtain ⟨k', B', hg', hb'⟩ := hrow b e.symm
    exact hn (.inr ⟨k', B', hg', hb'⟩)

/-- One own block written, or blocks made: the boxes but 'k1' are those that were there, and lie elsewhere. -/
theorem Mem.step {bx' : List (Nat × Box)} {row : Option Nat} {k1 : Option Nat} (h : Mem E σ bx w) (hσ : ∀ k v, σ k = some v → σ' k = some v) (g : w.grownBy w' row)
    (hrow : ∀ b, row = some b → ∃ k B, aget bx k = some B ∧ blkOf (σ k) = some b)
    (hk : ∀ k B, aget bx' k = some B → some k ≠ k1 → aget bx k = some B ∧ ∀ b, row = some b → blkOf (σ k) ≠ some b)
    (h1 : ∀ k B, k1 = some k → aget bx' k = some B → BRel σ' w' (badOf E σ' bx') k B ∧ ∀ b, blkOf (σ' k) = some b → b < w'.heap.size ∧ (w.heap.size ≤ b ∨ row = some b)) :
    Mem E σ' bx' w' := by
  have hb := h.readable hσ g hrow (fun k B hg hne => (hk k B hg hne).1) (fun k B b he hg hbb => ((h1 k B he hg).2 b hbb).2)
  have hrowown : ∀ b, row = some b → ¬ E.bad0 b ∧ (E.N ≤ b ∨ E.wr b) := by
    intro b hb
    obtain ⟨k, B, hg, hkb⟩ := hrow b hb
    exact (h.own k B b hg hkb).2
  have hkeep : ∀ k B b, aget bx' k = some B → some k ≠ k1 → blkOf (σ' k) = some b → aget bx k = some B ∧ blkOf (σ k) = some b ∧ row ≠ some b := by
    intro k B b hg hne hbb
    obtain ⟨hg', hr⟩ := hk k B hg hne
    obtain ⟨v, hv⟩ := (h.box k B hg').key
    rw [hσ k v hv] at hbb
    have hbb' : blkOf (σ k) = some b := by rw [hv]; exact hbb
    exact ⟨hg', hbb', fun e => hr b e hbb'⟩
  refine ⟨?_, ?_, ?_, g.os.trans h.os, g.tape.trans h.tape, g.output.trans h.output, Nat.le_trans h.size g.size, ?_, h.hbad⟩
  · intro k B hg
    by_cases hkk : some k = k1
    · exact (h1 k B hkk.symm hg).1
    · obtain ⟨hg', hr⟩ := hk k B hg hkk
      refine (h.box k B hg').mono hσ hb fun b hbb => g.block b (h.own k B b hg' hbb).1 fun e => hr b e.symm hbb
  · intro k B b hg hbb
    by_cases hkk : some k = k1
    · obtain ⟨h2, h3⟩ := (h1 k B hkk.symm hg).2 b hbb
      refine ⟨h2, ?_⟩
      rcases h3 with h3 | h3
      · have hs := h.size
        exact ⟨fun h0 => by have := h.hbad b h0; omega, .inl (Nat.le_trans hs h3)⟩
      · exact hrowown b h3
    · obtain ⟨hg', hbb', _⟩ := hkeep k B b hg hkk hbb
      obtain ⟨h2, h3⟩ := h.own k B b hg' hbb'
      exact ⟨Nat.lt_of_lt_of_le h2 g.size, h3⟩
  · intro k k' B B' b hg hg' hbb hbb'
    by_cases hkk : some k = k1 <;> by_cases hkk' : some k' = k1
    · rw [← hkk'] at hkk; injection hkk
    · obtain ⟨h2, h3, h4⟩ := hkeep k' B' b hg' hkk' hbb'
      rcases ((h1 k B hkk.symm hg).2 b hbb).2 with h5 | h5
      · have := (h.own k' B' b h2 h3).1; omega
      · exact absurd h5 h4
    · obtain ⟨h2, h3, h4⟩ := hkeep k B b hg hkk hbb
      rcases ((h1 k' B' hkk'.symm hg').2 b hbb').2 with h5 | h5
      · have := (h.own k B b h2 h3).1; omega
      · exact absurd h5 h4
    · obtain ⟨h2, h3, _⟩ := hkeep k B b hg hkk hbb
      obtain ⟨h4, h5, _⟩ := hkeep k' B' b hg' hkk' hbb'
      exact h.dist k k' B B' b h2 h4 h3 h5
  · intro b hb' hm
    rw [g.block b (Nat.lt_of_lt_of_le hb' h.size) fun e => by
      rcases (hrowown b e.symm).2 with h2 | h2
      · omega
      · exact hm h2]
    exact h.old b hb' hm

theorem Rel.step {bx' : List (Nat × Box)} {row : Option Nat} {k1 : Option Nat} (h : Rel E σ S a w) (hσ : ∀ k v, σ k = some v → σ' k = some v) (g : w.grownBy w' row)
    (hrow : ∀ b, row = some b → ∃ k B, aget S.bx k = some B ∧ blkOf (σ k) = some b)
    (hk : ∀ k B, aget bx' k = some B → some k ≠ k1 → aget S.bx k = some B ∧ ∀ b, row = some b → blkOf (σ k) ≠ some b)
    (h1 : ∀ k B, k1 = some k → aget bx' k = some B → BRel σ' w' (badOf E σ' bx') k B ∧ ∀ b, blkOf (σ' k) = some b → b < w'.heap.size ∧ (w.heap.size ≤ b ∨ row = some b)) :
    Rel E σ' { S with bx := bx' } a w' := by
  have hb := h.readable hσ g hrow (fun k B hg hne => (hk k B hg hne).1) (fun k B b he hg hbb => ((h1 k B he hg).2 b hbb).2)
  refine ⟨h.toMem.step hσ g hrow hk h1, h.dfs, h.nt, ?_⟩
  intro t s hs
  obtain ⟨v, hv, hc⟩ := h.fr t s hs
  exact ⟨v, hv, hc.mono hσ hb⟩

/-- A slot is written. -/
theorem Rel.put {t : Nat} {s : V} {v : Value} (h : Rel E σ S a w) (ht : t < S.nt) (hc : CV σ w (badOf E σ S.bx) s v) : Rel E σ { S with fr := aput S.fr t s } (a.put (some t) v) w := by
  refine ⟨h.toMem, h.dfs, by simpa [Act.put] using h.nt, ?_⟩
  intro u r hr
  rw [aget_aput] at hr
  by_cases hu : u = t
  · subst hu
    rw [if_pos rfl] at hr
    injection hr with hr
    subst hr
    exact ⟨v, by simp [Act.put, h.nt, ht], hc⟩
  · rw [if_neg hu] at hr
    obtain ⟨x, hx, hcx⟩ := h.fr u r hr
    refine ⟨x, ?_, hcx⟩
    simp only [Act.put, Array.getElem?_setIfInBounds, hx]
    rw [if_neg (fun e => hu e.symm)]

/-- A slot becomes unknown. -/
theorem Rel.drop {t : Nat} (h : Rel E σ S a w) (v : Value) : Rel E σ { S with fr := adel S.fr t } (a.put (some t) v) w := by
  refine ⟨h.toMem, h.dfs, by simpa [Act.put] using h.nt, ?_⟩
  intro u r hr
  rw [aget_adel] at hr
  by_cases hu : u = t
  · rw [if_pos hu] at hr; cases hr
  · rw [if_neg hu] at hr
    obtain ⟨x, hx, hcx⟩ := h.fr u r hr
    refine ⟨x, ?_, hcx⟩
    simp only [Act.put, Array.getElem?_setIfInBounds, hx]
    rw [if_neg (fun e => hu e.symm)]

/-- Less is known. -/
theorem Mem.readable_less {bx' : List (Nat × Box)} (hbx : ∀ k B, aget bx' k = some B → aget bx k = some B) : ∀ b, b < w.heap.size → ¬ badOf E σ bx b → ¬ badOf E σ bx' b ∧ w.heap[b]? = w.heap[b]? := by
  intro b _ hn
  refine ⟨?_, rfl⟩
  rintro (h0 | ⟨k, B, hg, hkb⟩)
  · exact hn (.inl h0)
  · exact hn (.inr ⟨k, B, hbx k B hg, hkb⟩)

theorem Mem.weaken {bx' : List (Nat × Box)} (h : Mem E σ bx w) (hbx : ∀ k B, aget bx' k = some B → aget bx k = some B) : Mem E σ bx' w :=
  ⟨fun k B hg => (h.box k B (hbx k B hg)).mono (fun _ _ h => h) (Mem.readable_less hbx) fun _ _ => rfl,
   fun k B b hg => h.own k B b (hbx k B hg), fun k k' B B' b hg hg' => h.dist k k' B B' b (hbx k B hg) (hbx k' B' hg'), h.os, h.tape, h.output, h.size, h.old, h.hbad⟩

theorem Rel.weaken {S' : St} (h : Rel E σ S a w) (hnt : S'.nt = S.nt) (hfr : ∀ t s, aget S'.fr t = some s → aget S.fr t = some s) (hbx : ∀ k B, aget S'.bx k = some B → aget S.bx k = some B) : Rel E σ S' a w := by
  refine ⟨h.toMem.weaken hbx, h.dfs, by rw [hnt]; exact h.nt, ?_⟩
  intro t s hs
  obtain ⟨v, hv, hc⟩ := h.fr t s (hfr t s hs)
  exact ⟨v, hv, hc.mono (fun _ _ h => h) (Mem.readable_less hbx)⟩

/-- The memory was added to, or a draw was made. -/
theorem Rel.grown (h : Rel E σ S a w) (g : w.grownBy w' none) : Rel E σ S a w' :=
  h.step (bx' := S.bx) (row := none) (k1 := none) (σ' := σ) (fun _ _ h => h) g (fun _ h => by cases h)
    (fun k B hg _ => ⟨hg, fun _ h => by cases h⟩) (fun k B he => by cases he)

theorem grownBy_drew (w : World) (n : Nat) (row : Option Nat) : w.grownBy { w with drawn := n } row := ⟨rfl, rfl, rfl, Nat.le_refl _, fun _ _ _ => rfl⟩

/-- A new box. -/
theorem Rel.add {k1 : Nat} {B1 : Box} {v1 : Value} (h : Rel E σ S a w) (hf : σ k1 = none) (g : w.grownBy w' none) 
    (hblk : ∀ b, blkOf (some v1) = some b → w.heap.size ≤ b ∧ b < w'.heap.size)
    (hB : (∀ b, b < w.heap.size → ¬ badOf E σ S.bx b → ¬ badOf E (fun k => if k = k1 then some v1 else σ k) (aput S.bx k1 B1) b ∧ w'.heap[b]? = w.heap[b]?) →
      BRel (fun k => if k = k1 then some v1 else σ k) w' (badOf E (fun k => if k = k1 then some v1 else σ k) (aput S.bx k1 B1)) k1 B1) :
    Rel E (fun k => if k = k1 then some v1 else σ k) { S with bx := aput S.bx k1 B1 } a w' := by
  have hσ : ∀ k v, σ k = some v → (fun k => if k = k1 then some v1 else σ k) k = some v := by
    intro k v hv
    show (if k = k1 then some v1 else σ k) = some v
    rw [if_neg (fun e => by rw [e, hf] at hv; cases hv)]; exact hv
  have hk : ∀ k B, aget (aput S.bx k1 B1) k = some B → some k ≠ some k1 → aget S.bx k = some B := by
    intro k B hg hne
    rw [aget_aput, if_neg (fun e => hne (by rw [e]))] at hg
    exact hg
  have hb := h.readable (k1 := some k1) hσ g (fun _ h => by cases h) hk (fun k B b he hg hbb => by
    injection he with he; subst he
    exact .inl (hblk b (by simpa using hbb)).1)
  refine h.step (k1 := some k1) hσ g (fun _ h => by cases h) (fun k B hg hne => ⟨hk k B hg hne, fun _ h => by cases h⟩) fun k B he hg => ?_
  injection he with he; subst he
  rw [aget_aput, if_pos rfl] at hg
  injection hg with hg; subst hg
  exact ⟨hB hb, fun b hbb => by have := hblk b (by simpa using hbb); exact ⟨this.2, .inl this.1⟩⟩

/-- An own box written. -/
theorem Rel.write {k1 : Nat} {B0 B1 : Box} {b0 : Nat} (h : Rel E σ S a w) (h0 : aget S.bx k1 = some B0) (hb0 : blkOf (σ k1) = some b0) (g : w.grownBy w' (some b0))
    (hB : (∀ b, b < w.heap.size → ¬ badOf E σ S.bx b → ¬ badOf E σ (aput S.bx k1 B1) b ∧ w'.heap[b]? = w.heap[b]?) → BRel σ w' (badOf E σ (aput S.bx k1 B1)) k1 B1) :
    Rel E σ { S with bx := aput S.bx k1 B1 } a w' := by
  have hk : ∀ k B, aget (aput S.bx k1 B1) k = some B → some k ≠ some k1 → aget S.bx k = some B := by
    intro k B hg hne
    rw [aget_aput, if_neg (fun e => hne (by rw [e]))] at hg
    exact hg
  have hrow : ∀ b, some b0 = some b → ∃ k B, aget S.bx k = some B ∧ blkOf (σ k) = some b := by
    intro b e; injection e with e; subst e; exact ⟨k1, B0, h0, hb0⟩
  have hb := h.readable (k1 := some k1) (σ' := σ) (fun _ _ h => h) g hrow hk (fun k B b he hg hbb => by
    injection he with he; subst he
    exact .inr (by rw [← hb0, hbb]))
  refine h.step (k1 := some k1) (σ' := σ) (fun _ _ h => h) g hrow (fun k B hg hne => ⟨hk k B hg hne, fun b e hbb => ?_⟩) fun k B he hg => ?_
  · injection e with e; subst e
    exact hne (by rw [h.dist k k1 B B0 b0 (hk k B hg hne) h0 hbb hb0])
  · injection he with he; subst he
    rw [aget_aput, if_pos rfl] at hg
    injection hg with hg; subst hg
    refine ⟨hB hb, fun b hbb => ?_⟩
    have := (h.own k1 B0 b h0 hbb).1
    exact ⟨Nat.lt_of_lt_of_le this g.size, .inr (by rw [← hb0, hbb])⟩

/-- An own box taken up by a new one (append). -/
theorem Rel.swap {k0 k1 : Nat} {B0 B1 : Box} {v1 : Value} (h : Rel E σ S a w) (h0 : aget S.bx k0 = some B0) (hf : σ k1 = none) (g : w.grownBy w' (blkOf (σ k0)))
    (hblk : ∀ b, blkOf (some v1) = some b → b < w'.heap.size ∧ (w.heap.size ≤ b ∨ blkOf (σ k0) = some b))
    (hB : (∀ b, b < w.heap.size → ¬ badOf E σ S.bx b → ¬ badOf E (fun k => if k = k1 then some v1 else σ k) (aput (adel S.bx k0) k1 B1) b ∧ w'.heap[b]? = w.heap[b]?) →
      BRel (fun k => if k = k1 then some v1 else σ k) w' (badOf E (fun k => if k = k1 then some v1 else σ k) (aput (adel S.bx k0) k1 B1)) k1 B1) :
    Rel E (fun k => if k = k1 then some v1 else σ k) { S with bx := aput (adel S.bx k0) k1 B1 } a w' := by
  have hσ : ∀ k v, σ k = some v → (fun k => if k = k1 then some v1 else σ k) k = some v := by
    intro k v hv
    show (if k = k1 then some v1 else σ k) = some v
    rw [if_neg (fun e => by rw [e, hf] at hv; cases hv)]; exact hv
  have hk : ∀ k B, aget (aput (adel S.bx k0) k1 B1) k = some B → some k ≠ some k1 → k ≠ k0 ∧ aget S.bx k = some B := by
    intro k B hg hne
    rw [aget_aput, if_neg (fun e => hne (by rw [e])), aget_adel] at hg
    by_cases hk0 : k = k0
    · rw [if_pos hk0] at hg; cases hg
    · rw [if_neg hk0] at hg; exact ⟨hk0, hg⟩
  have hrow : ∀ b, blkOf (σ k0) = some b → ∃ k B, aget S.bx k = some B ∧ blkOf (σ k) = some b := fun b e => ⟨k0, B0, h0, e⟩
  have hb := h.readable (k1 := some k1) hσ g hrow (fun k B hg hne => (hk k B hg hne).2) (fun k B b he hg hbb => by
    injection he with he; subst he
    exact (hblk b (by simpa using hbb)).2)
  refine h.step (k1 := some k1) hσ g hrow (fun k B hg hne => ⟨(hk k B hg hne).2, fun b e hbb => ?_⟩) fun k B he hg => ?_
  · exact (hk k B hg hne).1 (h.dist k k0 B B0 b (hk k B hg hne).2 h0 hbb e)
  · injection he with he; subst he
    rw [aget_aput, if_pos rfl] at hg
    injection hg with hg; subst hg
    exact ⟨hB hb, fun b hbb => hblk b (by simpa using hbb)⟩
end
end Go.Hb
