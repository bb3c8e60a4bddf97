/-
  THE SYMBOLIC LAYER, PART R: the own boxes under other keys, or taken for data ('mapK'); running on to the next loop's head or the end ('seg').
-/
import Derived.Test.YtfcdfbafgmegfaaSyQ
namespace Go.Hb
open Go.RowKit

def V.isK : V → Bool
  | .ptr _ _ | .row _ _ _ _ | .vec _ | .vptr _ _ _ _ | .map _ => true
  | _ => false

mutual
/-- Each key of a value by 'φ'. -/
def V.mapK (φ : V → V) : V → V
  | .agg l => .agg (V.mapL φ l)
  | .tup l => .tup (V.mapL φ l)
  | .fn f l => .fn f (V.mapL φ l)
  | .ptr k off => φ (.ptr k off)
  | .row k off len cap => φ (.row k off len cap)
  | .vec k => φ (.vec k)
  | .vptr k sz i off => φ (.vptr k sz i off)
  | .map k => φ (.map k)
  | s => s
def V.mapL (φ : V → V) : List V → List V
  | [] => []
  | s :: l => V.mapK φ s :: V.mapL φ l
end

theorem mapL_get (φ : V → V) : ∀ (l : List V), (V.mapL φ l).length = l.length ∧ ∀ (j : Nat) (s : V), (V.mapL φ l)[j]? = some s → ∃ s0, l[j]? = some s0 ∧ s = V.mapK φ s0
  | [] => by simp [V.mapL]
  | x :: l => by
    obtain ⟨h1, h2⟩ := mapL_get φ l
    refine ⟨by simp [V.mapL, h1], fun j s hj => ?_⟩
    cases j with
    | zero => simp [V.mapL] at hj; subst hj; exact ⟨x, rfl, rfl⟩
    | succ j => simpa using h2 j s (by simpa [V.mapL] using hj)

def mapFr (φ : V → V) : List (Nat × V) → List (Nat × V)
  | [] => []
  | (t, s) :: l => (t, V.mapK φ s) :: mapFr φ l
def Box.mapK (φ : V → V) : Box → Box
  | .cells ty l => .cells ty (V.mapL φ l)
  | B => B
def mapBx (φ : V → V) : List (Nat × Box) → List (Nat × Box)
  | [] => []
  | (q, B) :: l => (q, Box.mapK φ B) :: mapBx φ l

theorem mapFr_get (φ : V → V) : ∀ (l : List (Nat × V)) (t : Nat) (s : V), aget (mapFr φ l) t = some s → ∃ s0, aget l t = some s0 ∧ s = V.mapK φ s0
  | [], t, s, h => by simp [mapFr, aget] at h
  | (u, x) :: l, t, s, h => by
    simp only [mapFr, aget] at h ⊢
    split at h
    · injection h with h
      exact ⟨x, rfl, h.symm⟩
    · exact mapFr_get φ l t s h
theorem mapBx_get (φ : V → V) : ∀ (l : List (Nat × Box)) (t : Nat) (s : Box), aget (mapBx φ l) t = some s → ∃ s0, aget l t = some s0 ∧ s = Box.mapK φ s0
  | [], t, s, h => by simp [mapBx, aget] at h
  | (u, x) :: l, t, s, h => by
    simp only [mapBx, aget] at h ⊢
    split at h
    · injection h with h
      exact ⟨x, rfl, h.symm⟩
    · exact mapBx_get φ l t s h

section
variable {P : Program} {f : FuncId} {m : Nat} {res : V} {bx1 : List (Nat × Box)} {E : Env} {σ σ' : Nat → Option Value} {S S' : St} {a : Act} {w : World} {bad bad' : Nat → Prop}

theorem CD.mapK {φ : V → V} (hb : ∀ b, b < w.heap.size → ¬ bad b → ¬ bad' b ∧ w.heap[b]? = w.heap[b]?) {s : V} {v : Value} (h : CD w bad s v) : CD w bad' (V.mapK φ s) v := by
  induction h with
  | @fn f l vs u hs hv _ ih =>
    simp only [V.mapK]
    obtain ⟨h1, h2⟩ := mapL_get φ l
    refine .fn vs u (by rw [h1]; exact hs) (fun j hj => hv j (by rw [← h1]; exact hj)) fun j s hj => ?_
    obtain ⟨s0, h3, rfl⟩ := h2 j s hj
    exact ih j s0 h3
  | int => exact .int
  | bool => exact .bool
  | tt => exact .tt
  | str => exact .str
  | seq o b off c u ho hnc hl hc hd hz _ => exact (CD.seq o b off c u ho hnc hl hc hd hz).mono hb
  | rfp b o u hc hd _ => exact (CD.rfp b o u hc hd).mono hb
  | nilfn => exact .nilfn
  | nilsl => exact .nilsl
  | esl a c => exact .esl a c
  | nilp => exact .nilp
  | nilmap => exact .nilmap

theorem CV.mapK {φ : V → V} (hb : ∀ b, b < w.heap.size → ¬ bad b → ¬ bad' b ∧ w.heap[b]? = w.heap[b]?) (hφ : ∀ s v, V.isK s = true → CV σ w bad s v → CV σ' w bad' (φ s) v)
    {s : V} {v : Value} (h : CV σ w bad s v) : CV σ' w bad' (V.mapK φ s) v := by
  induction h with
  | junk => exact .junk
  | @data s v h => exact .data (h.mapK hb)
  | @agg l vs u hs hv h1 _ ih =>
    simp only [V.mapK]
    obtain ⟨g1, g2⟩ := mapL_get φ l
    refine .agg vs u (by rw [g1]; exact hs) (fun j hj => hv j (by rw [← g1]; exact hj)) (fun j hj => h1 j (by rw [← g1]; exact hj)) fun j s hj => ?_
    obtain ⟨s0, h3, rfl⟩ := g2 j s hj
    exact ih j s0 h3
  | @tup l vs u hs hv _ ih =>
    simp only [V.mapK]
    obtain ⟨g1, g2⟩ := mapL_get φ l
    refine .tup vs u (by rw [g1]; exact hs) (fun j hj => hv j (by rw [← g1]; exact hj)) fun j s hj => ?_
    obtain ⟨s0, h3, rfl⟩ := g2 j s hj
    exact ih j s0 h3
  | @fn f l vs u hs hv _ ih =>
    simp only [V.mapK]
    obtain ⟨g1, g2⟩ := mapL_get φ l
    refine .fn vs u (by rw [g1]; exact hs) (fun j hj => hv j (by rw [← g1]; exact hj)) fun j s hj => ?_
    obtain ⟨s0, h3, rfl⟩ := g2 j s hj
    exact ih j s0 h3
  | ptr b h => exact hφ _ _ rfl (.ptr b h)
  | row b h => exact hφ _ _ rfl (.row b h)
  | vec v h => exact hφ _ _ rfl (.vec v h)
  | vptr b n c h => exact hφ _ _ rfl (.vptr b n c h)
  | elp b o c h hi => exact .elp b o c (h.mono hb) hi
  | map r h => exact hφ _ _ rfl (.map r h)

theorem BRel.mapK {φ : V → V} {k k' : Nat} {B : Box} (hk : σ' k' = σ k) (hb : ∀ b, b < w.heap.size → ¬ bad b → ¬ bad' b ∧ w.heap[b]? = w.heap[b]?) (hφ : ∀ s v, V.isK s = true → CV σ w bad s v → CV σ' w bad' (φ s) v) (h : BRel σ w bad k B) : BRel σ' w bad' k' (Box.mapK φ B) := by
  cases h with
  | @cells ty l b cs h1 hh hs hc =>
    obtain ⟨g1, g2⟩ := mapL_get φ l
    refine .cells b cs (by rw [hk]; exact h1) hh (by rw [g1]; exact hs) fun j s hj => ?_
    obtain ⟨s0, h3, rfl⟩ := g2 j s hj
    obtain ⟨v, h4, h5, h6⟩ := hc j s0 h3
    exact ⟨v, h4, h5.mapK hb hφ, h6⟩
  | vec v xs h1 ho hl hc => exact .vec v xs (by rw [hk]; exact h1) ho hl fun i j s hi hj => by obtain ⟨x, h2, h3⟩ := hc i j s hi hj; exact ⟨x, h2, h3.mono hb⟩
  | mapB r h1 h => exact .mapB r (by rw [hk]; exact h1) h
  | mapI r h1 h => exact .mapI r (by rw [hk]; exact h1) h
  | mapF r h1 h => exact .mapF r (by rw [hk]; exact h1) h

/-- OTHER KEYS, and fewer boxes: 'R': (new, old). -/
def findR (R : List (Nat × Nat)) (k : Nat) : List (Nat × Nat) → Option Nat
  | [] => none
  | (n, o) :: l => match Nat.beq o k, aget R n with
    | true, some q => match Nat.beq q k with
      | true => some n
      | false => none
    | _, _ => findR R k l

def renV (R : List (Nat × Nat)) : V → V
  | .ptr k off => match findR R k R with | some n => .ptr n off | none => .junk
  | .row k off len cap => match findR R k R with | some n => .row n off len cap | none => .junk
  | .vec k => match findR R k R with | some n => .vec n | none => .junk
  | .vptr k sz i off => match findR R k R with | some n => .vptr n sz i off | none => .junk
  | .map k => match findR R k R with | some n => .map n | none => .junk
  | _ => .junk

def selFr (F : List (Nat × V)) : List Nat → Option (List (Nat × V))
  | [] => some []
  | t :: l => match aget F t, selFr F l with
    | some s, some r => some ((t, s) :: r)
    | _, _ => none
def selBx (X : List (Nat × Box)) : List (Nat × Nat) → Option (List (Nat × Box))
  | [] => some []
  | (n, o) :: l => match aget X o, selBx X l with
    | some s, some r => some ((n, s) :: r)
    | _, _ => none

def okR (nx : Nat) : List (Nat × Nat) → Bool
  | [] => true
  | (n, o) :: l => Nat.blt n nx && (match aget (l.map fun p => (p.2, ())) o with | some _ => false | none => true) && okR nx l

def ownR (R : List (Nat × Nat)) : Nat → Bool
  | 0 => true
  | k + 1 => (match aget R k with | some q => Nat.beq q k | none => false) && ownR R k

/-- Some slots, and some boxes under new keys. -/
def sel (m nx : Nat) (fs : List Nat) (R : List (Nat × Nat)) (S : St) : Option St :=
  match okR nx R && ownR R m && Nat.ble m nx, selFr S.fr fs, selBx S.bx R with
  | true, some F, some X => some { nt := S.nt, nx := nx, fr := mapFr (renV R) F, bx := mapBx (renV R) X }
  | _, _, _ => none

theorem findR_ok {R : List (Nat × Nat)} {k : Nat} : ∀ {l : List (Nat × Nat)} {n : Nat}, findR R k l = some n → aget R n = some k
  | [], n, h => by simp [findR] at h
  | (x, o) :: l, n, h => by
    unfold findR at h
    split at h
    · rename_i hx
      split at h
      · rename_i hq
        rw [Nat.beq_eq] at hq; subst hq
        injection h with h; subst h
        exact hx
      · cases h
    · exact findR_ok h

theorem selFr_get {F : List (Nat × V)} : ∀ {l : List Nat} {X : List (Nat × V)}, selFr F l = some X → ∀ t s, aget X t = some s → aget F t = some s
  | [], X, h, t, s, hs => by simp [selFr] at h; subst h; simp [aget] at hs
  | u :: l, X, h, t, s, hs => by
    unfold selFr at h
    split at h
    · rename_i s0 r h1 h2
      injection h with h; subst h
      simp only [aget] at hs
      split at hs
      · rename_i hb
        rw [Nat.beq_eq] at hb; subst hb
        injection hs with hs; subst hs; exact h1
      · exact selFr_get h2 t s hs
    · cases h
theorem selBx_get {F : List (Nat × Box)} : ∀ {l : List (Nat × Nat)} {X : List (Nat × Box)}, selBx F l = some X → ∀ n B, aget X n = some B → ∃ o, aget l n = some o ∧ aget F o = some B
  | [], X, h, t, s, hs => by simp [selBx] at h; subst h; simp [aget] at hs
  | (u, o) :: l, X, h, t, s, hs => by
    unfold selBx at h
    split at h
    · rename_i s0 r h1 h2
      injection h with h; subst h
      simp only [aget] at hs ⊢
      split at hs
      · injection hs with hs; subst hs
        exact ⟨o, rfl, h1⟩
      · exact selBx_get h2 t s hs
    · cases h
theorem aget_unit {l : List (Nat × Nat)} {o : Nat} (h : aget (l.map fun p => (p.2, ())) o = none) : ∀ n, aget l n ≠ some o := by
  induction l with
  | nil => simp [aget]
  | cons p l ih =>
    obtain ⟨x, q⟩ := p
    intro n hn
    simp only [List.map_cons, aget] at h
    split at h
    · cases h
    · rename_i hq
      simp only [aget] at hn
      split at hn
      · injection hn with hn; subst hn; simp at hq
      · exact ih h n hn
theorem okR_ok {nx : Nat} : ∀ {R : List (Nat × Nat)}, okR nx R = true → (∀ n o, aget R n = some o → n < nx) ∧ ∀ n n' o, aget R n = some o → aget R n' = some o → n = n'
  | [], _ => by simp [aget]
  | (x, q) :: l, h => by
    simp only [okR, Bool.and_eq_true, Nat.blt_eq] at h
    obtain ⟨⟨h1, h2⟩, h3⟩ := h
    obtain ⟨g1, g2⟩ := okR_ok h3
    have h2' : aget (l.map fun p => (p.2, ())) q = none := by
      cases he : aget (l.map fun p => (p.2, ())) q with
      | none => rfl
      | some u => rw [he] at h2; cases h2
    have hno := aget_unit h2'
    refine ⟨fun n o hn => ?_, fun n n' o hn hn' => ?_⟩
    · simp only [aget] at hn
      split at hn
      · rename_i hb; rw [Nat.beq_eq] at hb; omega
      · exact g1 n o hn
    · simp only [aget] at hn hn'
      split at hn
      · rename_i hb
        rw [Nat.beq_eq] at hb
        injection hn with hn; subst hn
        split at hn'
        · rename_i hb'
          rw [Nat.beq_eq] at hb'; omega
        · exact absurd hn' (hno n')
      · split at hn'
        · injection hn' with hn'; subst hn'
          exact absurd hn (hno n)
        · exact g2 n n' o hn hn'
theorem ownR_ok {R : List (Nat × Nat)} : ∀ {m : Nat}, ownR R m = true → ∀ k, k < m → aget R k = some k
  | 0, _, k, hk => by omega
  | n + 1, h, k, hk => by
    simp only [ownR, Bool.and_eq_true] at h
    by_cases hkn : k = n
    · subst hkn
      have h1 := h.1
      split at h1
      · rename_i q hq
        rw [Nat.beq_eq] at h1; rw [hq, h1]
      · cases h1
    · exact ownR_ok h.2 k (by omega)

theorem GoTo.sel {todo : List Item} {nx : Nat} {fs : List Nat} {R : List (Nat × Nat)} (he : sel m nx fs R S = some S') (h : GoTo P f m res bx1 todo S') : GoTo P f m res bx1 todo S := by
  unfold Hb.sel at he
  split at he
  · rename_i F X hc hF hX
    injection he with he; subst he
    simp only [Bool.and_eq_true] at hc
    obtain ⟨⟨hok, hown⟩, hmn⟩ := hc
    have hmn := Nat.le_of_ble_eq_true hmn
    obtain ⟨hlt, hinj⟩ := okR_ok hok
    intro E σ a w b cs hb hk hr hf hnx
    let σ1 : Nat → Option Value := fun n => match aget R n with | some k => σ k | none => none
    have hσ1 : ∀ n k, aget R n = some k → σ1 n = σ k := fun n k h => by show (match aget R n with | some k => σ k | none => none) = σ k; rw [h]
    have hget : ∀ n B, aget (mapBx (renV R) X) n = some B → ∃ o B0, aget R n = some o ∧ aget S.bx o = some B0 ∧ B = Box.mapK (renV R) B0 := by
      intro n B hB
      obtain ⟨B0, h1, h2⟩ := mapBx_get _ _ _ _ hB
      obtain ⟨o, h3, h4⟩ := selBx_get hX n B0 h1
      exact ⟨o, B0, h3, h4, h2⟩
    have hbad : ∀ b, ¬ badOf E σ S.bx b → ¬ badOf E σ1 (mapBx (renV R) X) b := by
      intro b hn
      rintro (h0 | ⟨n, B, hg, hkb⟩)
      · exact hn (.inl h0)
      · obtain ⟨o, B0, h1, h2, _⟩ := hget n B hg
        rw [hσ1 n o h1] at hkb
        exact hn (.inr ⟨o, B0, h2, hkb⟩)
    have hmono : ∀ b, b < w.heap.size → ¬ badOf E σ S.bx b → ¬ badOf E σ1 (mapBx (renV R) X) b ∧ w.heap[b]? = w.heap[b]? := fun b _ hn => ⟨hbad b hn, rfl⟩
    have hφ : ∀ s v, V.isK s = true → CV σ w (badOf E σ S.bx) s v → CV σ1 w (badOf E σ1 (mapBx (renV R) X)) (renV R s) v := by
      intro s v hs hv
      cases hv with
      | ptr b hv =>
        simp only [renV]
        split
        · rename_i n hn; exact .ptr b (by rw [hσ1 n _ (findR_ok hn)]; exact hv)
        · exact .junk
      | row b hv =>
        simp only [renV]
        split
        · rename_i n hn; exact .row b (by rw [hσ1 n _ (findR_ok hn)]; exact hv)
        · exact .junk
      | vec v hv =>
        simp only [renV]
        split
        · rename_i n hn; exact .vec v (by rw [hσ1 n _ (findR_ok hn)]; exact hv)
        · exact .junk
      | vptr b n' c hv =>
        simp only [renV]
        split
        · rename_i n hn; exact .vptr b n' c (by rw [hσ1 n _ (findR_ok hn)]; exact hv)
        · exact .junk
      | map r hv =>
        simp only [renV]
        split
        · rename_i n hn; exact .map r (by rw [hσ1 n _ (findR_ok hn)]; exact hv)
        · exact .junk
      | data hd => cases hd <;> simp [V.isK] at hs
      | junk | agg | tup | fn | elp => simp [V.isK] at hs
    have hrel : Rel E σ1 { nt := S.nt, nx := nx, fr := mapFr (renV R) F, bx := mapBx (renV R) X } a w := by
      refine ⟨⟨fun n B hg => ?_, fun n B b hg hkb => ?_, fun n n' B B' b hg hg' hkb hkb' => ?_, hr.os, hr.tape, hr.output, hr.size, hr.old, hr.hbad⟩, hr.dfs, hr.nt, fun t r ht => ?_⟩
      · obtain ⟨o, B0, h1, h2, rfl⟩ := hget n B hg
        exact (hr.box o B0 h2).mapK (hσ1 n o h1) hmono hφ
      · obtain ⟨o, B0, h1, h2, _⟩ := hget n B hg
        rw [hσ1 n o h1] at hkb
        exact hr.own o B0 b h2 hkb
      · obtain ⟨o, B0, h1, h2, _⟩ := hget n B hg
        obtain ⟨o', B0', h1', h2', _⟩ := hget n' B' hg'
        rw [hσ1 n o h1] at hkb
        rw [hσ1 n' o' h1'] at hkb'
        have := hr.dist o o' B0 B0' b h2 h2' hkb hkb'
        subst this
        exact hinj n n' o h1 h1'
      · obtain ⟨s0, h1, rfl⟩ := mapFr_get _ _ _ _ (show aget (mapFr (renV R) F) t = some r from ht)
        obtain ⟨v, hv, hc⟩ := hr.fr t s0 (selFr_get hF t s0 h1)
        exact ⟨v, hv, hc.mapK hmono hφ⟩
    obtain ⟨e, w', fr, g1, g2, g3, v, σ', g4, g5, g6⟩ := h E σ1 a w b cs hb hk hrel (fun k hk => by
      show (match aget R k with | some k => σ k | none => none) = none
      cases hq : aget R k with
      | none => rfl
      | some o => have := hlt k o hq; exact absurd hk (by show ¬ nx ≤ k; omega)) hmn
    exact ⟨e, w', fr, g1, g2, g3, v, σ', g4, fun k hk => by rw [g5 k hk, hσ1 k k (ownR_ok hown k hk)], g6⟩
  · cases he
end
end Go.Hb
