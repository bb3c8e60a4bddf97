/-
  THE SYMBOLIC LAYER, PART N: a region that draws its order: where each operation reads and writes only what its edges put in order, every order comes to the state of the text's order.
-/
import Derived.Test.YtfcdfbafgmegfaaSyM
namespace Go.Hb
open Go.RowKit

def wBoxes (key : Nat) : Eff → List Nat
  | .val _ => []
  | .new _ _ => [key]
  | .upd k _ => [k]
  | .swap k0 _ _ => [k0, key]

def vOpt : V → Option V
  | .junk => none
  | s => some s

def slotRes : Eff → Option V
  | .val s => vOpt s
  | .new _ s => vOpt s
  | .upd _ _ => none
  | .swap _ _ s => vOpt s

def boxRes (key : Nat) (k : Nat) : Eff → Option Box
  | .val _ => none
  | .new B _ => some B
  | .upd _ B => some B
  | .swap _ B _ => if k = key then some B else none

theorem slot_fr (S : St) (d : Option Nat) (s : V) (t : Nat) : aget (S.slot d s).fr t = if d = some t then vOpt s else aget S.fr t := by
  unfold St.slot
  cases d with
  | none => simp
  | some u =>
    simp only [Option.some.injEq]
    split
    · simp only [aget_adel, vOpt]
      by_cases h : t = u
      · simp [h]
      · rw [if_neg h, if_neg (fun e => h e.symm)]
    · rename_i hs
      have hv : vOpt s = some s := by unfold vOpt; split <;> simp_all
      simp only [aget_aput, hv]
      by_cases h : t = u
      · simp [h]
      · rw [if_neg h, if_neg (fun e => h e.symm)]

theorem slot_bx (S : St) (d : Option Nat) (s : V) : (S.slot d s).bx = S.bx := by
  unfold St.slot
  cases d with
  | none => rfl
  | some u => simp only []; split <;> rfl

theorem slot_nt (S : St) (d : Option Nat) (s : V) : (S.slot d s).nt = S.nt := by
  unfold St.slot
  cases d with
  | none => rfl
  | some u => simp only []; split <;> rfl

theorem app_nt (e : Eff) (S : St) (key : Nat) (d : Option Nat) : (e.app S key d).nt = S.nt := by cases e <;> simp [Eff.app, slot_nt]

theorem app_fr (e : Eff) (S : St) (key : Nat) (d : Option Nat) (t : Nat) : aget (e.app S key d).fr t = if d = some t then slotRes e else aget S.fr t := by
  cases e <;> simp [Eff.app, slot_fr, slotRes, vOpt]

theorem app_bx_in (e : Eff) (S : St) (key : Nat) (d : Option Nat) (k : Nat) (h : k ∈ wBoxes key e) : aget (e.app S key d).bx k = boxRes key k e := by
  cases e with
  | val s => simp [wBoxes] at h
  | new B s => simp [wBoxes] at h; simp [Eff.app, slot_bx, aget_aput, h, boxRes]
  | upd k0 B => simp [wBoxes] at h; simp [Eff.app, slot_bx, aget_aput, h, boxRes]
  | swap k0 B s =>
    simp [wBoxes] at h
    simp only [Eff.app, slot_bx, aget_aput, aget_adel, boxRes]
    by_cases hk : k = key
    · simp [hk]
    · simp [hk]; intro h2; omega

theorem app_bx_out (e : Eff) (S : St) (key : Nat) (d : Option Nat) (k : Nat) (h : k ∉ wBoxes key e) : aget (e.app S key d).bx k = aget S.bx k := by
  cases e with
  | val s => simp [Eff.app, slot_bx]
  | new B s => simp [wBoxes] at h; simp [Eff.app, slot_bx, aget_aput, h]
  | upd k0 B => simp [wBoxes] at h; simp [Eff.app, slot_bx, aget_aput, h]
  | swap k0 B s => simp [wBoxes] at h; simp [Eff.app, slot_bx, aget_aput, aget_adel, h]

structure D1 where
  dst : Option Nat
  key : Nat
  eff : Eff

/-- The state behind the operations of E, taken in the order of the text. -/
def foldE (E : Nat → Bool) : Nat → List D1 → St → St
  | _, [], S => S
  | i, x :: L, S => foldE E (i + 1) L (bif E i then x.eff.app S x.key x.dst else S)

theorem foldE_nt (E : Nat → Bool) : ∀ (L : List D1) (i : Nat) (S : St), (foldE E i L S).nt = S.nt
  | [], _, _ => rfl
  | x :: L, i, S => by
    simp only [foldE]
    rw [foldE_nt E L]
    cases E i <;> simp [app_nt]

theorem foldE_fr (E E' : Nat → Bool) (t : Nat) : ∀ (L : List D1) (i : Nat) (S S' : St), (∀ (j : Nat) x, L[j]? = some x → x.dst = some t → E (i + j) = E' (i + j)) → aget S.fr t = aget S'.fr t →
    aget (foldE E i L S).fr t = aget (foldE E' i L S').fr t
  | [], _, _, _, _, h => h
  | x :: L, i, S, S', hE, h => by
    simp only [foldE]
    refine foldE_fr E E' t L (i + 1) _ _ (fun j y hy hd => by have := hE (j + 1) y (by simpa using hy) hd; rw [show i + 1 + j = i + (j + 1) from by omega]; exact this) ?_
    by_cases hd : x.dst = some t
    · have h0 := hE 0 x rfl hd
      rw [Nat.add_zero] at h0
      rw [h0]
      cases E' i
      · exact h
      · simp [app_fr, hd]
    · cases E i <;> cases E' i <;> simp [app_fr, hd, h]

theorem foldE_bx (E E' : Nat → Bool) (k : Nat) : ∀ (L : List D1) (i : Nat) (S S' : St), (∀ (j : Nat) x, L[j]? = some x → k ∈ wBoxes x.key x.eff → E (i + j) = E' (i + j)) → aget S.bx k = aget S'.bx k →
    aget (foldE E i L S).bx k = aget (foldE E' i L S').bx k
  | [], _, _, _, _, h => h
  | x :: L, i, S, S', hE, h => by
    simp only [foldE]
    refine foldE_bx E E' k L (i + 1) _ _ (fun j y hy hd => by have := hE (j + 1) y (by simpa using hy) hd; rw [show i + 1 + j = i + (j + 1) from by omega]; exact this) ?_
    by_cases hd : k ∈ wBoxes x.key x.eff
    · have h0 := hE 0 x rfl hd
      rw [Nat.add_zero] at h0
      rw [h0]
      cases E' i
      · exact h
      · simp [app_bx_in _ _ _ _ _ hd]
    · cases E i <;> cases E' i <;> simp [app_bx_out _ _ _ _ _ hd, h]

theorem foldE_last_fr (E : Nat → Bool) (t : Nat) : ∀ (L : List D1) (i j : Nat) (S : St) (x : D1), L[j]? = some x → x.dst = some t → E (i + j) = true → (∀ (m : Nat) y, j < m → L[m]? = some y → y.dst = some t → E (i + m) = false) →
    aget (foldE E i L S).fr t = slotRes x.eff
  | [], _, j, _, _, h, _, _, _ => by simp at h
  | y :: L, i, 0, S, x, h, hd, hE, hl => by
    simp at h; subst h
    simp only [foldE]
    rw [Nat.add_zero] at hE
    have := foldE_fr E (fun _ => false) t L (i + 1) (bif E i then y.eff.app S y.key y.dst else S) (bif E i then y.eff.app S y.key y.dst else S) (fun m z hz hdz => by
      have := hl (m + 1) z (by omega) (by simpa using hz) hdz; rw [show i + 1 + m = i + (m + 1) from by omega]; exact this) rfl
    rw [this]
    have hnone : ∀ (L : List D1) (i : Nat) (S : St), foldE (fun _ => false) i L S = S := by
      intro L; induction L with
      | nil => intros; rfl
      | cons x L ih => intro i S; simp [foldE, ih]
    rw [hnone, hE]
    simp [app_fr, hd]
  | y :: L, i, j + 1, S, x, h, hd, hE, hl => by
    simp only [foldE]
    refine foldE_last_fr E t L (i + 1) j _ x (by simpa using h) hd (by rw [show i + 1 + j = i + (j + 1) from by omega]; exact hE) fun m z hm hz hdz => ?_
    have := hl (m + 1) z (by omega) (by simpa using hz) hdz
    rw [show i + 1 + m = i + (m + 1) from by omega]; exact this

theorem foldE_last_bx (E : Nat → Bool) (k : Nat) : ∀ (L : List D1) (i j : Nat) (S : St) (x : D1), L[j]? = some x → k ∈ wBoxes x.key x.eff → E (i + j) = true → (∀ (m : Nat) y, j < m → L[m]? = some y → k ∈ wBoxes y.key y.eff → E (i + m) = false) →
    aget (foldE E i L S).bx k = boxRes x.key k x.eff
  | [], _, j, _, _, h, _, _, _ => by simp at h
  | y :: L, i, 0, S, x, h, hd, hE, hl => by
    simp at h; subst h
    simp only [foldE]
    rw [Nat.add_zero] at hE
    have := foldE_bx E (fun _ => false) k L (i + 1) (bif E i then y.eff.app S y.key y.dst else S) (bif E i then y.eff.app S y.key y.dst else S) (fun m z hz hdz => by
      have := hl (m + 1) z (by omega) (by simpa using hz) hdz; rw [show i + 1 + m = i + (m + 1) from by omega]; exact this) rfl
    rw [this]
    have hnone : ∀ (L : List D1) (i : Nat) (S : St), foldE (fun _ => false) i L S = S := by
      intro L; induction L with
      | nil => intros; rfl
      | cons x L ih => intro i S; simp [foldE, ih]
    rw [hnone, hE]
    simp [app_bx_in _ _ _ _ _ hd]
  | y :: L, i, j + 1, S, x, h, hd, hE, hl => by
    simp only [foldE]
    refine foldE_last_bx E k L (i + 1) j _ x (by simpa using h) hd (by rw [show i + 1 + j = i + (j + 1) from by omega]; exact hE) fun m z hm hz hdz => ?_
    have := hl (m + 1) z (by omega) (by simpa using hz) hdz
    rw [show i + 1 + m = i + (m + 1) from by omega]; exact this

def bit (m i : Nat) : Bool := Nat.beq (Nat.land (Nat.shiftRight m i) 1) 1
def addBit (m i : Nat) : Nat := Nat.lor m (Nat.shiftLeft 1 i)

theorem bit_eq (m i : Nat) : bit m i = m.testBit i := by
  unfold bit
  rw [Nat.testBit_eq_decide_div_mod_eq]
  have : Nat.land (Nat.shiftRight m i) 1 = m / 2 ^ i % 2 := by
    show (m >>> i) &&& 1 = _
    rw [Nat.and_one_is_mod, Nat.shiftRight_eq_div_pow]
  rw [this]
  by_cases h : m / 2 ^ i % 2 = 1
  · simp [h]
  · have h2 : Nat.beq (m / 2 ^ i % 2) 1 = false := by rw [← Bool.not_eq_true, Nat.beq_eq]; exact h
    simp [h2, h]

theorem bit_lor (m n i : Nat) : bit (Nat.lor m n) i = (bit m i || bit n i) := by
  simp only [bit_eq]; exact Nat.testBit_or m n i
theorem bit_one (j i : Nat) : bit (Nat.shiftLeft 1 j) i = true → i = j := by
  simp only [bit_eq]
  intro h
  have : (1 <<< j).testBit i = true := h
  rw [Nat.one_shiftLeft, Nat.testBit_two_pow] at this
  simpa using (of_decide_eq_true this).symm

/-- The operations that come ahead of one, by its edges and theirs. -/
def depsOf (ds : List Nat) : List Edge → Nat
  | [] => 0
  | e :: l => match Region.binds .any e with
    | true => Nat.lor (Nat.lor (Nat.shiftLeft 1 e.on) (ds.getD e.on 0)) (depsOf ds l)
    | false => depsOf ds l

def depsAll : List Oper → List Nat → List Nat
  | [], ds => ds
  | o :: l, ds => depsAll l (ds ++ [depsOf ds o.after.toList])

/-- Every edge that binds goes to an earlier operation. -/
def backB : Nat → List Oper → Bool
  | _, [] => true
  | i, o :: l => (o.after.toList.all fun e => !Region.binds .any e || Nat.blt e.on i) && backB (i + 1) l

/-- Every other operation that writes the slot stands in order to i. -/
def stSlot (ds : List Nat) (i t : Nat) : Nat → List (Option Nat × List Nat) → Bool
  | _, [] => true
  | j, (d, _) :: l => (match d with
    | none => true
    | some u => match Nat.beq u t with
      | false => true
      | true => Nat.beq j i || (Nat.blt j i && bit (ds.getD i 0) j) || (Nat.blt i j && bit (ds.getD j 0) i)) && stSlot ds i t (j + 1) l

def memB (k : Nat) : List Nat → Bool
  | [] => false
  | x :: l => Nat.beq k x || memB k l

def stBox (ds : List Nat) (i k : Nat) : Nat → List (Option Nat × List Nat) → Bool
  | _, [] => true
  | j, (_, ks) :: l => (match memB k ks with
    | false => true
    | true => Nat.beq j i || (Nat.blt j i && bit (ds.getD i 0) j) || (Nat.blt i j && bit (ds.getD j 0) i)) && stBox ds i k (j + 1) l

def keepS (ds : List Nat) (W : List (Option Nat × List Nat)) (i : Nat) : List (Nat × V) → List (Nat × V)
  | [] => []
  | (t, s) :: l => match stSlot ds i t 0 W with
    | true => (t, s) :: keepS ds W i l
    | false => keepS ds W i l

def keepB (ds : List Nat) (W : List (Option Nat × List Nat)) (i : Nat) : List (Nat × Box) → List (Nat × Box)
  | [] => []
  | (k, s) :: l => match stBox ds i k 0 W with
    | true => (k, s) :: keepB ds W i l
    | false => keepB ds W i l

def eqL : List Nat → List Nat → Bool
  | [], [] => true
  | x :: l, y :: m => Nat.beq x y && eqL l m
  | _, _ => false

def eqO : Option Nat → Option Nat → Bool
  | none, none => true
  | some x, some y => Nat.beq x y
  | _, _ => false
theorem eqO_eq {x y : Option Nat} (h : eqO x y = true) : x = y := by
  cases x <;> cases y <;> simp_all [eqO]

def allB (p : Nat → Bool) : List Nat → Bool
  | [] => true
  | x :: l => p x && allB p l

/-- What each operation writes, in the order of the text. -/
def writesOf (P : Program) (base : Nat) (ops : List Oper) (sc : List (Nat × An)) : Nat → List Oper → St → Option (List (Option Nat × List Nat))
  | _, [], _ => some []
  | i, o :: rest, S => match execG P (base + i) (ansOf sc i) ops o S with
    | some (e, _) => match writesOf P base ops sc (i + 1) rest (e.app S (base + i) o.dst) with
      | some l => some ((o.dst, wBoxes (base + i) e) :: l)
      | none => none
    | none => none

def drawn (P : Program) (base : Nat) (ops : List Oper) (sc : List (Nat × An)) (ds : List Nat) (W : List (Option Nat × List Nat)) : Nat → List Oper → St → Option (List D1 × St × List Prop)
  | _, [], S => some ([], S, [])
  | i, o :: rest, S => match execG P (base + i) (ansOf sc i) ops o { S with fr := keepS ds W i S.fr, bx := keepB ds W i S.bx } with
    | some (e, obs) => match (match o.dst with
        | none => true
        | some t => stSlot ds i t 0 W) && allB (fun k => stBox ds i k 0 W) (wBoxes (base + i) e) && eqL (wBoxes (base + i) e) ((W.getD i (none, [])).2) && eqO o.dst ((W.getD i (none, [])).1) with
      | true => match drawn P base ops sc ds W (i + 1) rest (e.app S (base + i) o.dst) with
        | some (L, S', obs') => some (⟨o.dst, base + i, e⟩ :: L, S', obs ++ obs')
        | none => none
      | false => none
    | none => none

theorem memB_iff (k : Nat) : ∀ l : List Nat, memB k l = true ↔ k ∈ l
  | [] => by simp [memB]
  | x :: l => by simp [memB, memB_iff k l]

theorem eqL_eq : ∀ {l m : List Nat}, eqL l m = true → l = m
  | [], [], _ => rfl
  | x :: l, y :: m, h => by
    simp only [eqL, Bool.and_eq_true, Nat.beq_eq] at h
    rw [h.1, eqL_eq h.2]
  | [], _ :: _, h => by simp [eqL] at h
  | _ :: _, [], h => by simp [eqL] at h

theorem allB_get {p : Nat → Bool} : ∀ {l : List Nat}, allB p l = true → ∀ x ∈ l, p x = true
  | [], _, x, hx => by simp at hx
  | y :: l, h, x, hx => by
    simp only [allB, Bool.and_eq_true] at h
    rcases List.mem_cons.1 hx with rfl | hx
    · exact h.1
    · exact allB_get h.2 x hx

theorem keepS_get {ds : List Nat} {W : List (Option Nat × List Nat)} {i : Nat} : ∀ {l : List (Nat × V)} {t : Nat} {s : V}, aget (keepS ds W i l) t = some s → aget l t = some s ∧ stSlot ds i t 0 W = true
  | [], t, s, h => by simp [keepS, aget] at h
  | (u, x) :: l, t, s, h => by
    unfold keepS at h
    split at h
    · rename_i hst
      simp only [aget] at h ⊢
      split at h
      · rename_i hb
        rw [Nat.beq_eq] at hb; subst hb
        exact ⟨h, hst⟩
      · exact keepS_get h
    · rename_i hst
      obtain ⟨h1, h2⟩ := keepS_get h
      refine ⟨?_, h2⟩
      simp only [aget]
      split
      · rename_i hb
        rw [Nat.beq_eq] at hb; subst hb
        rw [h2] at hst; cases hst
      · exact h1

theorem keepB_get {ds : List Nat} {W : List (Option Nat × List Nat)} {i : Nat} : ∀ {l : List (Nat × Box)} {t : Nat} {s : Box}, aget (keepB ds W i l) t = some s → aget l t = some s ∧ stBox ds i t 0 W = true
  | [], t, s, h => by simp [keepB, aget] at h
  | (u, x) :: l, t, s, h => by
    unfold keepB at h
    split at h
    · rename_i hst
      simp only [aget] at h ⊢
      split at h
      · rename_i hb
        rw [Nat.beq_eq] at hb; subst hb
        exact ⟨h, hst⟩
      · exact keepB_get h
    · rename_i hst
      obtain ⟨h1, h2⟩ := keepB_get h
      refine ⟨?_, h2⟩
      simp only [aget]
      split
      · rename_i hb
        rw [Nat.beq_eq] at hb; subst hb
        rw [h2] at hst; cases hst
      · exact h1

/-- What 'stSlot' and 'stBox' say. -/
def InOrder (ds : List Nat) (i j : Nat) : Prop := j = i ∨ (j < i ∧ bit (ds.getD i 0) j = true) ∨ (i < j ∧ bit (ds.getD j 0) i = true)

theorem inOrder_of {ds : List Nat} {i j : Nat} (h : (Nat.beq j i || (Nat.blt j i && bit (ds.getD i 0) j) || (Nat.blt i j && bit (ds.getD j 0) i)) = true) : InOrder ds i j := by
  simp only [Bool.or_eq_true, Bool.and_eq_true, Nat.beq_eq, Nat.blt_eq] at h
  rcases h with (h | h) | h
  · exact .inl h
  · exact .inr (.inl h)
  · exact .inr (.inr h)

theorem stSlot_get {ds : List Nat} {i t : Nat} : ∀ {W : List (Option Nat × List Nat)} {j : Nat}, stSlot ds i t j W = true → ∀ (m : Nat) ks, W[m]? = some (some t, ks) → InOrder ds i (j + m)
  | [], _, _, m, ks, hm => by simp at hm
  | (d, ks0) :: W, j, h, m, ks, hm => by
    simp only [stSlot, Bool.and_eq_true] at h
    cases m with
    | zero =>
      simp at hm
      obtain ⟨rfl, rfl⟩ := hm
      have := h.1
      simp only [Nat.beq_refl] at this
      exact inOrder_of this
    | succ m =>
      have := stSlot_get h.2 m ks (by simpa using hm)
      rw [show j + (m + 1) = j + 1 + m from by omega]; exact this

theorem stBox_get {ds : List Nat} {i k : Nat} : ∀ {W : List (Option Nat × List Nat)} {j : Nat}, stBox ds i k j W = true → ∀ (m : Nat) d ks, W[m]? = some (d, ks) → k ∈ ks → InOrder ds i (j + m)
  | [], _, _, m, d, ks, hm, _ => by simp at hm
  | (d0, ks0) :: W, j, h, m, d, ks, hm, hk => by
    simp only [stBox, Bool.and_eq_true] at h
    cases m with
    | zero =>
      simp at hm
      obtain ⟨rfl, rfl⟩ := hm
      have := h.1
      rw [(memB_iff k ks0).2 hk] at this
      exact inOrder_of this
    | succ m =>
      have := stBox_get h.2 m d ks (by simpa using hm) hk
      rw [show j + (m + 1) = j + 1 + m from by omega]; exact this

section
variable {ops : Array Oper}

/-- Nothing is there without what comes ahead of it. -/
def Closed (ops : Array Oper) (E : Nat → Bool) : Prop := ∀ j, E j = true → ∀ o, ops[j]? = some o → ∀ e ∈ o.after, Region.binds .any e = true → E e.on = true

theorem depsOf_bit {ds : List Nat} {m : Nat} : ∀ {l : List Edge}, bit (depsOf ds l) m = true → ∃ e ∈ l, Region.binds .any e = true ∧ (m = e.on ∨ bit (ds.getD e.on 0) m = true)
  | [], h => by simp [depsOf, bit_eq] at h
  | e :: l, h => by
    unfold depsOf at h
    split at h
    · rename_i hb
      rw [bit_lor, bit_lor, Bool.or_eq_true, Bool.or_eq_true] at h
      rcases h with (h | h) | h
      · exact ⟨e, by simp, hb, .inl (bit_one _ _ h)⟩
      · exact ⟨e, by simp, hb, .inr h⟩
      · obtain ⟨e', he', h2, h3⟩ := depsOf_bit h
        exact ⟨e', by simp [he'], h2, h3⟩
    · obtain ⟨e', he', h2, h3⟩ := depsOf_bit h
      exact ⟨e', by simp [he'], h2, h3⟩

theorem depsAll_spec : ∀ (l : List Oper) (ds : List Nat), (depsAll l ds).length = ds.length + l.length ∧ (∀ i, i < ds.length → (depsAll l ds).getD i 0 = ds.getD i 0) ∧
    ∀ (i : Nat) o, l[i]? = some o → ∃ ds', (depsAll l ds).getD (ds.length + i) 0 = depsOf ds' o.after.toList ∧ (∀ j, ds'.getD j 0 = if j < ds.length + i then (depsAll l ds).getD j 0 else 0)
  | [], ds => by simp [depsAll]
  | o :: l, ds => by
    obtain ⟨h1, h2, h3⟩ := depsAll_spec l (ds ++ [depsOf ds o.after.toList])
    simp only [depsAll]
    refine ⟨by rw [h1]; simp; omega, fun i hi => ?_, fun i o' ho => ?_⟩
    · rw [h2 i (by simp; omega)]
      simp [List.getD, List.getElem?_append, hi]
    · cases i with
      | zero =>
        simp at ho; subst ho
        refine ⟨ds, ?_, fun j => ?_⟩
        · rw [Nat.add_zero, h2 ds.length (by simp)]
          simp [List.getD]
        · by_cases hj : j < ds.length
          · rw [if_pos (by omega), h2 j (by simp; omega)]
            simp [List.getD, List.getElem?_append, hj]
          · rw [if_neg (by omega)]
            simp [List.getD, hj]
      | succ i =>
        obtain ⟨ds', h4, h5⟩ := h3 i o' (by simpa using ho)
        have he : (ds ++ [depsOf ds o.after.toList]).length + i = ds.length + (i + 1) := by simp; omega
        rw [he] at h4 h5
        exact ⟨ds', h4, h5⟩

theorem backB_get : ∀ {l : List Oper} {i : Nat}, backB i l = true → ∀ (j : Nat) o, l[j]? = some o → ∀ e ∈ o.after, Region.binds .any e = true → e.on < i + j
  | [], _, _, j, o, h => by simp at h
  | o0 :: l, i, hb, j, o, h => by
    simp only [backB, Bool.and_eq_true, List.all_eq_true] at hb
    cases j with
    | zero =>
      simp at h; subst h; intro e he hbe
      have := hb.1 e (by simpa using he)
      rw [hbe] at this
      simpa using this
    | succ j =>
      intro e he hbe
      have := backB_get hb.2 j o (by simpa using h) e he hbe
      omega

theorem reach (hback : backB 0 ops.toList = true) {E : Nat → Bool} (hE : Closed ops E) : ∀ (i : Nat) o, ops[i]? = some o → (∀ e ∈ o.after, Region.binds .any e = true → E e.on = true) →
    ∀ m, bit ((depsAll ops.toList []).getD i 0) m = true → E m = true := by
  intro i
  induction i using Nat.strongRecOn with
  | _ i ih =>
    intro o ho hd m hm
    obtain ⟨_, _, h3⟩ := depsAll_spec ops.toList []
    obtain ⟨ds', h4, h5⟩ := h3 i o (by simpa using ho)
    simp only [List.length_nil, Nat.zero_add] at h4 h5
    rw [h4] at hm
    obtain ⟨e, he, hb, hm⟩ := depsOf_bit hm
    have he' : e ∈ o.after := by simpa using he
    have hEe := hd e he' hb
    rcases hm with rfl | hm
    · exact hEe
    · have hlt : e.on < i := by have := backB_get hback i o (by simpa using ho) e he' hb; omega
      rw [h5, if_pos hlt] at hm
      have hsz : e.on < ops.size := by have := (Array.getElem?_eq_some_iff.1 ho).1; omega
      exact ih e.on hlt _ (Array.getElem?_eq_getElem hsz) (fun e2 he2 hb2 => hE e.on hEe _ (Array.getElem?_eq_getElem hsz) e2 he2 hb2) m hm

/-- An operation in order to i has been done just if it stands ahead of it. -/
theorem inOrder_done (hback : backB 0 ops.toList = true) {E : Nat → Bool} (hE : Closed ops E) {i j : Nat} {o : Oper} (ho : ops[i]? = some o) (hd : ∀ e ∈ o.after, Region.binds .any e = true → E e.on = true) (hi : E i = false) (hj : j < ops.size)
    (h : InOrder (depsAll ops.toList []) i j) : E j = decide (j < i) := by
  rcases h with rfl | ⟨hlt, hb⟩ | ⟨hlt, hb⟩
  · simp [hi]
  · rw [reach hback hE i o ho hd j hb]; simp [hlt]
  · have : ¬ (j < i) := by omega
    simp only [this, decide_false]
    cases hEj : E j with
    | false => rfl
    | true =>
      have := reach hback hE j _ (Array.getElem?_eq_getElem hj) (fun e he hb => hE j hEj _ (Array.getElem?_eq_getElem hj) e he hb) i hb
      rw [hi] at this; cases this
end
end Go.Hb
