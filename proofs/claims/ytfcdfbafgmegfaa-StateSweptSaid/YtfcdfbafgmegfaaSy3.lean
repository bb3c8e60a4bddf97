/-
  THE SYMBOLIC LAYER, PART M: the operations of a region in the order of the text; and of a region that draws its order, in whatever order its edges allow.
-/
import Derived.Test.YtfcdfbafgmegfaaSy2
namespace Go.Hb
open Go.RowKit

def ansOf (sc : List (Nat × An)) (i : Nat) : An :=
  match aget sc i with
  | some a => a
  | none => .no

def exGuard (ops : List Oper) (fr : List (Nat × V)) : Option (Nat × Bool) → Option Bool
  | none => some true
  | some (j, want) => match ops[j]? with
    | some o => match o.dst with
      | some t => match aget fr t with
        | some (.tt b) => some (match b, want with
          | true, true => true
          | false, false => true
          | _, _ => false)
        | some (.tup []) => some false
        | _ => none
      | none => none
    | none => none

def dstOk (nt : Nat) : Option Nat → Bool
  | none => true
  | some t => Nat.blt t nt

/-- One operation with its guard: its effect. -/
def execG (P : Program) (key : Nat) (ans : An) (ops : List Oper) (o : Oper) (S : St) : Option (Eff × List Prop) :=
  match exGuard ops S.fr o.guard, dstOk S.nt o.dst with
  | some true, true => exec1 P key ans o.op S
  | some false, true => some (.val (.tup []), [])
  | _, _ => none

def execOps (P : Program) (base : Nat) (ops : List Oper) (sc : List (Nat × An)) : Nat → List Oper → St → Option (St × List Prop)
  | _, [], S => some (S, [])
  | i, o :: rest, S => match execG P (base + i) (ansOf sc i) ops o S with
    | some (e, obs) => match execOps P base ops sc (i + 1) rest (e.app S (base + i) o.dst) with
      | some (S', obs') => some (S', obs ++ obs')
      | none => none
    | none => none

section
variable {P : Program} {E : Env} {σ σ' : Nat → Option Value} {S V0 : St} {a : Act} {w w' : World} {bad : Nat → Prop} {key : Nat} {dst : Option Tmp} {ops : Array Oper}

theorem dstOk_ok {nt : Nat} {d : Option Nat} (h : dstOk nt d = true) : ∀ t, d = some t → t < nt := by
  rintro t rfl
  simpa [dstOk] using h

theorem exGuard_ok {g : Option (Nat × Bool)} {b : Bool} (h : exGuard ops.toList V0.fr g = some b) (hs : Sub V0 S) (hr : Rel E σ S a w) {o : Oper} (ho : o.guard = g) : Region.wanted o (yielded ops a.tmps) = b := by
  unfold exGuard at h
  split at h
  · injection h with h; subst h; simp [Region.wanted, ho]
  · rename_i j want
    split at h
    · rename_i oj hj
      split at h
      · rename_i t ht
        split at h
        · rename_i b' hb
          injection h with h
          obtain ⟨v, hv, hc⟩ := hr.fr t _ (hs.fr _ _ hb)
          have hv' : v = .bool b' := by cases hc with
            | data hd => cases hd; rfl
          subst hv'
          have hoj : ops[j]? = some oj := by simpa using hj
          have hy : yielded ops a.tmps j = some b' := by simp [yielded, hoj, ht, hv]
          unfold Region.wanted
          rw [ho]
          simp only [hy]
          subst h
          cases b' <;> cases want <;> rfl
        · rename_i hb
          injection h with h
          obtain ⟨v, hv, hc⟩ := hr.fr t _ (hs.fr _ _ hb)
          have hv' : v = .tuple #[] := by cases hc with
            | data hd => cases hd
            | tup vs u hs hv hd =>
              obtain rfl : vs = #[] := by simpa using hs
              rfl
          subst hv'
          have hoj : ops[j]? = some oj := by simpa using hj
          have hy : yielded ops a.tmps j = none := by simp [yielded, hoj, ht, hv]
          unfold Region.wanted
          rw [ho]
          simp only [hy]
          subst h
          rfl
        · cases h
      · cases h
    · cases h

/-- One operation with its guard, in the model. -/
theorem wpOp_ok {i : Nat} {o : Oper} {ans : An} {e : Eff} {obs : List Prop} {K : Act → World → Prop} {Q : Exit → Act → World → Prop} (hi : ops[i]? = some o) (he : execG P key ans ops.toList o V0 = some (e, obs)) (ho : AllP obs) (hs : Sub V0 S) (h : Rel E σ S a w)
    (hf : ∀ j, σ (key + j * 1000000) = none) (hK : Onward E σ (e.app S key o.dst) key K) : wpOp P ops Q i K a w := by
  unfold execG at he
  unfold wpOp
  rw [hi]
  simp only []
  split at he
  · rename_i hg hd
    rw [if_pos (exGuard_ok hg hs h rfl)]
    exact .inl (exec1_ok he ho hs h (by rw [← hs.nt]; exact dstOk_ok hd) hf hK)
  · rename_i hg hd
    have := exGuard_ok hg hs h (o := o) rfl
    rw [if_neg (by rw [this]; simp)]
    injection he with he; injection he with h1 h2; subst h1
    exact hK σ _ _ (h.slot (s := .tup []) (by rw [← hs.nt]; exact dstOk_ok hd) (.tup #[] (fun _ => undef) rfl (by simp) (by simp))) (fun _ _ => rfl)
  · cases he

/-- What holds behind a region. -/
def After (E : Env) (σ0 : Nat → Option Value) (base n : Nat) (S' : St) (e : Exit) (a' : Act) (w' : World) : Prop :=
  e = .normal ∧ ∃ σ', Rel E σ' S' a' w' ∧ (∀ k, k % 1000000 < base → σ' k = σ0 k) ∧ ∀ k, base + n ≤ k % 1000000 → σ' k = none

theorem execOps_ok {base : Nat} {sc : List (Nat × An)} {σ0 : Nat → Option Value} : ∀ {rest : List Oper} {i : Nat} {S S' : St} {obs : List Prop} {σ : Nat → Option Value} {a : Act} {w : World},
    execOps P base ops.toList sc i rest S = some (S', obs) → AllP obs → ops.toList.drop i = rest → i ≤ ops.size → Rel E σ S a w → (∀ k, k % 1000000 < base → σ k = σ0 k) → (∀ k, base + i ≤ k % 1000000 → σ k = none) → base + ops.size ≤ 1000000 →
    wpOps P ops (After E σ0 base ops.size S') (List.range' i rest.length) a w
  | [], i, S, S', obs, σ, a, w, he, ho, hd, hin, h, hb, hf, hM => by
    simp only [execOps, Option.some.injEq, Prod.mk.injEq] at he
    obtain ⟨rfl, _⟩ := he
    have hi : ops.size ≤ i := by simpa using hd
    exact ⟨rfl, σ, h, hb, fun k hk => hf k (by omega)⟩
  | o :: rest, i, S, S', obs, σ, a, w, he, ho, hd, hin, h, hb, hf, hM => by
    unfold execOps at he
    split at he
    · rename_i e obs1 he1
      split at he
      · rename_i S2 obs2 he2
        injection he with he; injection he with h1 h2; subst h1 h2
        obtain ⟨ho1, ho2⟩ := allP_append.1 ho
        have hi : ops[i]? = some o := by
          have := congrArg (fun l => l[0]?) hd
          simpa using this
        have hlt : i < ops.size := (Array.getElem?_eq_some_iff.1 hi).1
        simp only [List.length_cons, List.range'_succ]
        rw [wpOps_cons]
        refine wpOp_ok hi he1 ho1 (Sub.refl S) h (fun j => hf _ (by omega)) fun σ' a' w' hr hk => ?_
        refine execOps_ok he2 ho2 ?_ (by omega) hr (fun k hkb => ?_) (fun k hkb => ?_) hM
        · have := congrArg (List.drop 1) hd
          simpa [List.drop_drop] using this
        · rw [hk k (fun j => by omega)]; exact hb k hkb
        · rw [hk k (fun j => by omega)]; exact hf k (by omega)
      · cases he
    · cases he
end
end Go.Hb

/-
  THE SYMBOLIC LAYER, PART N: a region that draws its order: where each operation reads and writes only what its edges put in order, every order comes to the state of the text's order.
-/
namespace Go.Hb
open Go.RowKit

def wBoxes (key : Nat) : Eff → List Nat
  | .val _ => []
  | .new _ _ => [key]
  | .upd k _ => [k]
  | .swap k0 _ _ => [k0, key]
  | .upv k _ _ => [k]
  | .own K bs _ => K ++ bs.map (·.1)

def vOpt : V → Option V
  | .junk => none
  | s => some s

def slotRes : Eff → Option V
  | .val s => vOpt s
  | .new _ s => vOpt s
  | .upd _ _ => none
  | .swap _ _ s => vOpt s
  | .upv _ _ s => vOpt s
  | .own _ _ s => vOpt s

def boxRes (key : Nat) (k : Nat) : Eff → Option Box
  | .val _ => none
  | .new B _ => some B
  | .upd _ B => some B
  | .swap _ B _ => if k = key then some B else none
  | .upv _ B _ => some B
  | .own _ bs _ => aget bs k

theorem slot_fr (S : St) (d : Option Nat) (s : V) (t : Nat) : aget (S.slot d s).fr t = if d = some t then vOpt s else aget S.fr t := by
  unfold St.slot
  cases d with
  | none => simp
  | some u =>
    simp only [Option.some.injEq]
    split
    · simp only [aget_adel, vOpt]
      by_cases h : t = u
      · simp [h]
      · rw [if_neg h, if_neg (fun e => h e.symm)]
    · rename_i hs
      have hv : vOpt s = some s := by unfold vOpt; split <;> simp_all
      simp only [aget_aput, hv]
      by_cases h : t = u
      · simp [h]
      · rw [if_neg h, if_neg (fun e => h e.symm)]

theorem slot_bx (S : St) (d : Option Nat) (s : V) : (S.slot d s).bx = S.bx := by
  unfold St.slot
  cases d with
  | none => rfl
  | some u => simp only []; split <;> rfl

theorem slot_nt (S : St) (d : Option Nat) (s : V) : (S.slot d s).nt = S.nt := by
  unfold St.slot
  cases d with
  | none => rfl
  | some u => simp only []; split <;> rfl

theorem app_nt (e : Eff) (S : St) (key : Nat) (d : Option Nat) : (e.app S key d).nt = S.nt := by cases e <;> simp [Eff.app, slot_nt]

theorem app_fr (e : Eff) (S : St) (key : Nat) (d : Option Nat) (t : Nat) : aget (e.app S key d).fr t = if d = some t then slotRes e else aget S.fr t := by
  cases e <;> simp [Eff.app, slot_fr, slotRes, vOpt]
theorem aget_keys {α : Type} : ∀ {l : List (Nat × α)} {k : Nat}, aget l k = none ↔ k ∉ l.map (·.1)
  | [], k => by simp [aget]
  | (q, B) :: l, k => by
    simp only [aget, List.map_cons, List.mem_cons, not_or]
    cases hb : Nat.beq q k with
    | true =>
      rw [Nat.beq_eq] at hb
      simp [hb]
    | false =>
      have hne : ¬ k = q := fun e => by rw [e] at hb; simp at hb
      simp only [hne, not_false_eq_true, true_and]
      exact aget_keys

theorem app_bx_in (e : Eff) (S : St) (key : Nat) (d : Option Nat) (k : Nat) (h : k ∈ wBoxes key e) : aget (e.app S key d).bx k = boxRes key k e := by
  cases e with
  | val s => simp [wBoxes] at h
  | new B s => simp [wBoxes] at h; simp [Eff.app, slot_bx, aget_aput, h, boxRes]
  | upd k0 B => simp [wBoxes] at h; simp [Eff.app, slot_bx, aget_aput, h, boxRes]
  | swap k0 B s =>
    simp [wBoxes] at h
    simp only [Eff.app, slot_bx, aget_aput, aget_adel, boxRes]
    by_cases hk : k = key
    · simp [hk]
    · simp [hk]; intro h2; omega
  | upv k0 B s => simp [wBoxes] at h; simp [Eff.app, slot_bx, aget_aput, h, boxRes]
  | own K bs s =>
    simp only [wBoxes, List.mem_append] at h
    simp only [Eff.app, slot_bx, aget_putB, boxRes]
    cases hx : aget bs k with
    | some B => rfl
    | none =>
      have := aget_keys.1 hx
      simp only [aget_delB, h.resolve_right this, if_true]

theorem app_bx_out (e : Eff) (S : St) (key : Nat) (d : Option Nat) (k : Nat) (h : k ∉ wBoxes key e) : aget (e.app S key d).bx k = aget S.bx k := by
  cases e with
  | val s => simp [Eff.app, slot_bx]
  | new B s => simp [wBoxes] at h; simp [Eff.app, slot_bx, aget_aput, h]
  | upd k0 B => simp [wBoxes] at h; simp [Eff.app, slot_bx, aget_aput, h]
  | swap k0 B s => simp [wBoxes] at h; simp [Eff.app, slot_bx, aget_aput, aget_adel, h]
  | upv k0 B s => simp [wBoxes] at h; simp [Eff.app, slot_bx, aget_aput, h]
  | own K bs s =>
    simp only [wBoxes, List.mem_append, not_or] at h
    simp only [Eff.app, slot_bx, aget_putB, aget_keys.2 h.2, aget_delB, h.1, if_false]

structure D1 where
  dst : Option Nat
  key : Nat
  eff : Eff

/-- The state behind the operations of E, taken in the order of the text. -/
def foldE (E : Nat → Bool) : Nat → List D1 → St → St
  | _, [], S => S
  | i, x :: L, S => foldE E (i + 1) L (bif E i then x.eff.app S x.key x.dst else S)

theorem foldE_nt (E : Nat → Bool) : ∀ (L : List D1) (i : Nat) (S : St), (foldE E i L S).nt = S.nt
  | [], _, _ => rfl
  | x :: L, i, S => by
    simp only [foldE]
    rw [foldE_nt E L]
    cases E i <;> simp [app_nt]

theorem foldE_fr (E E' : Nat → Bool) (t : Nat) : ∀ (L : List D1) (i : Nat) (S S' : St), (∀ (j : Nat) x, L[j]? = some x → x.dst = some t → E (i + j) = E' (i + j)) → aget S.fr t = aget S'.fr t →
    aget (foldE E i L S).fr t = aget (foldE E' i L S').fr t
  | [], _, _, _, _, h => h
  | x :: L, i, S, S', hE, h => by
    simp only [foldE]
    refine foldE_fr E E' t L (i + 1) _ _ (fun j y hy hd => by have := hE (j + 1) y (by simpa using hy) hd; rw [show i + 1 + j = i + (j + 1) from by omega]; exact this) ?_
    by_cases hd : x.dst = some t
    · have h0 := hE 0 x rfl hd
      rw [Nat.add_zero] at h0
      rw [h0]
      cases E' i
      · exact h
      · simp [app_fr, hd]
    · cases E i <;> cases E' i <;> simp [app_fr, hd, h]

theorem foldE_bx (E E' : Nat → Bool) (k : Nat) : ∀ (L : List D1) (i : Nat) (S S' : St), (∀ (j : Nat) x, L[j]? = some x → k ∈ wBoxes x.key x.eff → E (i + j) = E' (i + j)) → aget S.bx k = aget S'.bx k →
    aget (foldE E i L S).bx k = aget (foldE E' i L S').bx k
  | [], _, _, _, _, h => h
  | x :: L, i, S, S', hE, h => by
    simp only [foldE]
    refine foldE_bx E E' k L (i + 1) _ _ (fun j y hy hd => by have := hE (j + 1) y (by simpa using hy) hd; rw [show i + 1 + j = i + (j + 1) from by omega]; exact this) ?_
    by_cases hd : k ∈ wBoxes x.key x.eff
    · have h0 := hE 0 x rfl hd
      rw [Nat.add_zero] at h0
      rw [h0]
      cases E' i
      · exact h
      · simp [app_bx_in _ _ _ _ _ hd]
    · cases E i <;> cases E' i <;> simp [app_bx_out _ _ _ _ _ hd, h]

theorem foldE_last_fr (E : Nat → Bool) (t : Nat) : ∀ (L : List D1) (i j : Nat) (S : St) (x : D1), L[j]? = some x → x.dst = some t → E (i + j) = true → (∀ (m : Nat) y, j < m → L[m]? = some y → y.dst = some t → E (i + m) = false) →
    aget (foldE E i L S).fr t = slotRes x.eff
  | [], _, j, _, _, h, _, _, _ => by simp at h
  | y :: L, i, 0, S, x, h, hd, hE, hl => by
    simp at h; subst h
    simp only [foldE]
    rw [Nat.add_zero] at hE
    have := foldE_fr E (fun _ => false) t L (i + 1) (bif E i then y.eff.app S y.key y.dst else S) (bif E i then y.eff.app S y.key y.dst else S) (fun m z hz hdz => by
      have := hl (m + 1) z (by omega) (by simpa using hz) hdz; rw [show i + 1 + m = i + (m + 1) from by omega]; exact this) rfl
    rw [this]
    have hnone : ∀ (L : List D1) (i : Nat) (S : St), foldE (fun _ => false) i L S = S := by
      intro L; induction L with
      | nil => intros; rfl
      | cons x L ih => intro i S; simp [foldE, ih]
    rw [hnone, hE]
    simp [app_fr, hd]
  | y :: L, i, j + 1, S, x, h, hd, hE, hl => by
    simp only [foldE]
    refine foldE_last_fr E t L (i + 1) j _ x (by simpa using h) hd (by rw [show i + 1 + j = i + (j + 1) from by omega]; exact hE) fun m z hm hz hdz => ?_
    have := hl (m + 1) z (by omega) (by simpa using hz) hdz
    rw [show i + 1 + m = i + (m + 1) from by omega]; exact this

theorem foldE_last_bx (E : Nat → Bool) (k : Nat) : ∀ (L : List D1) (i j : Nat) (S : St) (x : D1), L[j]? = some x → k ∈ wBoxes x.key x.eff → E (i + j) = true → (∀ (m : Nat) y, j < m → L[m]? = some y → k ∈ wBoxes y.key y.eff → E (i + m) = false) →
    aget (foldE E i L S).bx k = boxRes x.key k x.eff
  | [], _, j, _, _, h, _, _, _ => by simp at h
  | y :: L, i, 0, S, x, h, hd, hE, hl => by
    simp at h; subst h
    simp only [foldE]
    rw [Nat.add_zero] at hE
    have := foldE_bx E (fun _ => false) k L (i + 1) (bif E i then y.eff.app S y.key y.dst else S) (bif E i then y.eff.app S y.key y.dst else S) (fun m z hz hdz => by
      have := hl (m + 1) z (by omega) (by simpa using hz) hdz; rw [show i + 1 + m = i + (m + 1) from by omega]; exact this) rfl
    rw [this]
    have hnone : ∀ (L : List D1) (i : Nat) (S : St), foldE (fun _ => false) i L S = S := by
      intro L; induction L with
      | nil => intros; rfl
      | cons x L ih => intro i S; simp [foldE, ih]
    rw [hnone, hE]
    simp [app_bx_in _ _ _ _ _ hd]
  | y :: L, i, j + 1, S, x, h, hd, hE, hl => by
    simp only [foldE]
    refine foldE_last_bx E k L (i + 1) j _ x (by simpa using h) hd (by rw [show i + 1 + j = i + (j + 1) from by omega]; exact hE) fun m z hm hz hdz => ?_
    have := hl (m + 1) z (by omega) (by simpa using hz) hdz
    rw [show i + 1 + m = i + (m + 1) from by omega]; exact this

def bit (m i : Nat) : Bool := Nat.beq (Nat.land (Nat.shiftRight m i) 1) 1
theorem bit_eq (m i : Nat) : bit m i = m.testBit i := by
  unfold bit
  rw [Nat.testBit_eq_decide_div_mod_eq]
  have : Nat.land (Nat.shiftRight m i) 1 = m / 2 ^ i % 2 := by
    show (m >>> i) &&& 1 = _
    rw [Nat.and_one_is_mod, Nat.shiftRight_eq_div_pow]
  rw [this]
  by_cases h : m / 2 ^ i % 2 = 1
  · simp [h]
  · have h2 : Nat.beq (m / 2 ^ i % 2) 1 = false := by rw [← Bool.not_eq_true, Nat.beq_eq]; exact h
    simp [h2, h]

theorem bit_lor (m n i : Nat) : bit (Nat.lor m n) i = (bit m i || bit n i) := by
  simp only [bit_eq]; exact Nat.testBit_or m n i
theorem bit_one (j i : Nat) : bit (Nat.shiftLeft 1 j) i = true → i = j := by
  simp only [bit_eq]
  intro h
  have : (1 <<< j).testBit i = true := h
  rw [Nat.one_shiftLeft, Nat.testBit_two_pow] at this
  simpa using (of_decide_eq_true this).symm

/-- The operations that come ahead of one, by its edges and theirs. -/
def depsOf (ds : List Nat) : List Edge → Nat
  | [] => 0
  | e :: l => match Region.binds .any e with
    | true => Nat.lor (Nat.lor (Nat.shiftLeft 1 e.on) (ds.getD e.on 0)) (depsOf ds l)
    | false => depsOf ds l

def depsAll : List Oper → List Nat → List Nat
  | [], ds => ds
  | o :: l, ds => depsAll l (ds ++ [depsOf ds o.after.toList])

/-- Every edge that binds goes to an earlier operation. -/
def backB : Nat → List Oper → Bool
  | _, [] => true
  | i, o :: l => (o.after.toList.all fun e => !Region.binds .any e || Nat.blt e.on i) && backB (i + 1) l

/-- Every other operation that writes the slot stands in order to i. -/
def stSlot (ds : List Nat) (i t : Nat) : Nat → List (Option Nat × List Nat) → Bool
  | _, [] => true
  | j, (d, _) :: l => (match d with
    | none => true
    | some u => match Nat.beq u t with
      | false => true
      | true => Nat.beq j i || (Nat.blt j i && bit (ds.getD i 0) j) || (Nat.blt i j && bit (ds.getD j 0) i)) && stSlot ds i t (j + 1) l

def memB (k : Nat) : List Nat → Bool
  | [] => false
  | x :: l => Nat.beq k x || memB k l

def stBox (ds : List Nat) (i k : Nat) : Nat → List (Option Nat × List Nat) → Bool
  | _, [] => true
  | j, (_, ks) :: l => (match memB k ks with
    | false => true
    | true => Nat.beq j i || (Nat.blt j i && bit (ds.getD i 0) j) || (Nat.blt i j && bit (ds.getD j 0) i)) && stBox ds i k (j + 1) l

def keepS (ds : List Nat) (W : List (Option Nat × List Nat)) (i : Nat) : List (Nat × V) → List (Nat × V)
  | [] => []
  | (t, s) :: l => match stSlot ds i t 0 W with
    | true => (t, s) :: keepS ds W i l
    | false => keepS ds W i l

def keepB (ds : List Nat) (W : List (Option Nat × List Nat)) (i : Nat) : List (Nat × Box) → List (Nat × Box)
  | [] => []
  | (k, s) :: l => match stBox ds i k 0 W with
    | true => (k, s) :: keepB ds W i l
    | false => keepB ds W i l

def eqL : List Nat → List Nat → Bool
  | [], [] => true
  | x :: l, y :: m => Nat.beq x y && eqL l m
  | _, _ => false

def eqO : Option Nat → Option Nat → Bool
  | none, none => true
  | some x, some y => Nat.beq x y
  | _, _ => false
theorem eqO_eq {x y : Option Nat} (h : eqO x y = true) : x = y := by
  cases x <;> cases y <;> simp_all [eqO]

def allB (p : Nat → Bool) : List Nat → Bool
  | [] => true
  | x :: l => p x && allB p l

/-- What each operation writes, in the order of the text. -/
def writesOf (P : Program) (base : Nat) (ops : List Oper) (sc : List (Nat × An)) : Nat → List Oper → St → Option (List (Option Nat × List Nat))
  | _, [], _ => some []
  | i, o :: rest, S => match execG P (base + i) (ansOf sc i) ops o S with
    | some (e, _) => match writesOf P base ops sc (i + 1) rest (e.app S (base + i) o.dst) with
      | some l => some ((o.dst, wBoxes (base + i) e) :: l)
      | none => none
    | none => none

def drawn (P : Program) (base : Nat) (ops : List Oper) (sc : List (Nat × An)) (ds : List Nat) (W : List (Option Nat × List Nat)) : Nat → List Oper → St → Option (List D1 × St × List Prop)
  | _, [], S => some ([], S, [])
  | i, o :: rest, S => match execG P (base + i) (ansOf sc i) ops o { S with fr := keepS ds W i S.fr, bx := keepB ds W i S.bx } with
    | some (e, obs) => match (match o.dst with
        | none => true
        | some t => stSlot ds i t 0 W) && allB (fun k => stBox ds i k 0 W) (wBoxes (base + i) e) && eqL (wBoxes (base + i) e) ((W.getD i (none, [])).2) && eqO o.dst ((W.getD i (none, [])).1) with
      | true => match drawn P base ops sc ds W (i + 1) rest (e.app S (base + i) o.dst) with
        | some (L, S', obs') => some (⟨o.dst, base + i, e⟩ :: L, S', obs ++ obs')
        | none => none
      | false => none
    | none => none

theorem memB_iff (k : Nat) : ∀ l : List Nat, memB k l = true ↔ k ∈ l
  | [] => by simp [memB]
  | x :: l => by simp [memB, memB_iff k l]

theorem eqL_eq : ∀ {l m : List Nat}, eqL l m = true → l = m
  | [], [], _ => rfl
  | x :: l, y :: m, h => by
    simp only [eqL, Bool.and_eq_true, Nat.beq_eq] at h
    rw [h.1, eqL_eq h.2]
  | [], _ :: _, h => by simp [eqL] at h
  | _ :: _, [], h => by simp [eqL] at h

theorem allB_get {p : Nat → Bool} : ∀ {l : List Nat}, allB p l = true → ∀ x ∈ l, p x = true
  | [], _, x, hx => by simp at hx
  | y :: l, h, x, hx => by
    simp only [allB, Bool.and_eq_true] at h
    rcases List.mem_cons.1 hx with rfl | hx
    · exact h.1
    · exact allB_get h.2 x hx

theorem keepS_get {ds : List Nat} {W : List (Option Nat × List Nat)} {i : Nat} : ∀ {l : List (Nat × V)} {t : Nat} {s : V}, aget (keepS ds W i l) t = some s → aget l t = some s ∧ stSlot ds i t 0 W = true
  | [], t, s, h => by simp [keepS, aget] at h
  | (u, x) :: l, t, s, h => by
    unfold keepS at h
    split at h
    · rename_i hst
      simp only [aget] at h ⊢
      split at h
      · rename_i hb
        rw [Nat.beq_eq] at hb; subst hb
        exact ⟨h, hst⟩
      · exact keepS_get h
    · rename_i hst
      obtain ⟨h1, h2⟩ := keepS_get h
      refine ⟨?_, h2⟩
      simp only [aget]
      split
      · rename_i hb
        rw [Nat.beq_eq] at hb; subst hb
        rw [h2] at hst; cases hst
      · exact h1

theorem keepB_get {ds : List Nat} {W : List (Option Nat × List Nat)} {i : Nat} : ∀ {l : List (Nat × Box)} {t : Nat} {s : Box}, aget (keepB ds W i l) t = some s → aget l t = some s ∧ stBox ds i t 0 W = true
  | [], t, s, h => by simp [keepB, aget] at h
  | (u, x) :: l, t, s, h => by
    unfold keepB at h
    split at h
    · rename_i hst
      simp only [aget] at h ⊢
      split at h
      · rename_i hb
        rw [Nat.beq_eq] at hb; subst hb
        exact ⟨h, hst⟩
      · exact keepB_get h
    · rename_i hst
      obtain ⟨h1, h2⟩ := keepB_get h
      refine ⟨?_, h2⟩
      simp only [aget]
      split
      · rename_i hb
        rw [Nat.beq_eq] at hb; subst hb
        rw [h2] at hst; cases hst
      · exact h1

/-- What 'stSlot' and 'stBox' say. -/
def InOrder (ds : List Nat) (i j : Nat) : Prop := j = i ∨ (j < i ∧ bit (ds.getD i 0) j = true) ∨ (i < j ∧ bit (ds.getD j 0) i = true)

theorem inOrder_of {ds : List Nat} {i j : Nat} (h : (Nat.beq j i || (Nat.blt j i && bit (ds.getD i 0) j) || (Nat.blt i j && bit (ds.getD j 0) i)) = true) : InOrder ds i j := by
  simp only [Bool.or_eq_true, Bool.and_eq_true, Nat.beq_eq, Nat.blt_eq] at h
  rcases h with (h | h) | h
  · exact .inl h
  · exact .inr (.inl h)
  · exact .inr (.inr h)

theorem stSlot_get {ds : List Nat} {i t : Nat} : ∀ {W : List (Option Nat × List Nat)} {j : Nat}, stSlot ds i t j W = true → ∀ (m : Nat) ks, W[m]? = some (some t, ks) → InOrder ds i (j + m)
  | [], _, _, m, ks, hm => by simp at hm
  | (d, ks0) :: W, j, h, m, ks, hm => by
    simp only [stSlot, Bool.and_eq_true] at h
    cases m with
    | zero =>
      simp at hm
      obtain ⟨rfl, rfl⟩ := hm
      have := h.1
      simp only [Nat.beq_refl] at this
      exact inOrder_of this
    | succ m =>
      have := stSlot_get h.2 m ks (by simpa using hm)
      rw [show j + (m + 1) = j + 1 + m from by omega]; exact this

theorem stBox_get {ds : List Nat} {i k : Nat} : ∀ {W : List (Option Nat × List Nat)} {j : Nat}, stBox ds i k j W = true → ∀ (m : Nat) d ks, W[m]? = some (d, ks) → k ∈ ks → InOrder ds i (j + m)
  | [], _, _, m, d, ks, hm, _ => by simp at hm
  | (d0, ks0) :: W, j, h, m, d, ks, hm, hk => by
    simp only [stBox, Bool.and_eq_true] at h
    cases m with
    | zero =>
      simp at hm
      obtain ⟨rfl, rfl⟩ := hm
      have := h.1
      rw [(memB_iff k ks0).2 hk] at this
      exact inOrder_of this
    | succ m =>
      have := stBox_get h.2 m d ks (by simpa using hm) hk
      rw [show j + (m + 1) = j + 1 + m from by omega]; exact this

section
variable {ops : Array Oper}

/-- Nothing is there without what comes ahead of it. -/
def Closed (ops : Array Oper) (E : Nat → Bool) : Prop := ∀ j, E j = true → ∀ o, ops[j]? = some o → ∀ e ∈ o.after, Region.binds .any e = true → E e.on = true

theorem depsOf_bit {ds : List Nat} {m : Nat} : ∀ {l : List Edge}, bit (depsOf ds l) m = true → ∃ e ∈ l, Region.binds .any e = true ∧ (m = e.on ∨ bit (ds.getD e.on 0) m = true)
  | [], h => by simp [depsOf, bit_eq] at h
  | e :: l, h => by
    unfold depsOf at h
    split at h
    · rename_i hb
      rw [bit_lor, bit_lor, Bool.or_eq_true, Bool.or_eq_true] at h
      rcases h with (h | h) | h
      · exact ⟨e, by simp, hb, .inl (bit_one _ _ h)⟩
      · exact ⟨e, by simp, hb, .inr h⟩
      · obtain ⟨e', he', h2, h3⟩ := depsOf_bit h
        exact ⟨e', by simp [he'], h2, h3⟩
    · obtain ⟨e', he', h2, h3⟩ := depsOf_bit h
      exact ⟨e', by simp [he'], h2, h3⟩

theorem depsAll_spec : ∀ (l : List Oper) (ds : List Nat), (depsAll l ds).length = ds.length + l.length ∧ (∀ i, i < ds.length → (depsAll l ds).getD i 0 = ds.getD i 0) ∧
    ∀ (i : Nat) o, l[i]? = some o → ∃ ds', (depsAll l ds).getD (ds.length + i) 0 = depsOf ds' o.after.toList ∧ (∀ j, ds'.getD j 0 = if j < ds.length + i then (depsAll l ds).getD j 0 else 0)
  | [], ds => by simp [depsAll]
  | o :: l, ds => by
    obtain ⟨h1, h2, h3⟩ := depsAll_spec l (ds ++ [depsOf ds o.after.toList])
    simp only [depsAll]
    refine ⟨by rw [h1]; simp; omega, fun i hi => ?_, fun i o' ho => ?_⟩
    · rw [h2 i (by simp; omega)]
      simp [List.getD, List.getElem?_append, hi]
    · cases i with
      | zero =>
        simp at ho; subst ho
        refine ⟨ds, ?_, fun j => ?_⟩
        · rw [Nat.add_zero, h2 ds.length (by simp)]
          simp [List.getD]
        · by_cases hj : j < ds.length
          · rw [if_pos (by omega), h2 j (by simp; omega)]
            simp [List.getD, List.getElem?_append, hj]
          · rw [if_neg (by omega)]
            simp [List.getD, hj]
      | succ i =>
        obtain ⟨ds', h4, h5⟩ := h3 i o' (by simpa using ho)
        have he : (ds ++ [depsOf ds o.after.toList]).length + i = ds.length + (i + 1) := by simp; omega
        rw [he] at h4 h5
        exact ⟨ds', h4, h5⟩

theorem backB_get : ∀ {l : List Oper} {i : Nat}, backB i l = true → ∀ (j : Nat) o, l[j]? = some o → ∀ e ∈ o.after, Region.binds .any e = true → e.on < i + j
  | [], _, _, j, o, h => by simp at h
  | o0 :: l, i, hb, j, o, h => by
    simp only [backB, Bool.and_eq_true, List.all_eq_true] at hb
    cases j with
    | zero =>
      simp at h; subst h; intro e he hbe
      have := hb.1 e (by simpa using he)
      rw [hbe] at this
      simpa using this
    | succ j =>
      intro e he hbe
      have := backB_get hb.2 j o (by simpa using h) e he hbe
      omega

theorem reach (hback : backB 0 ops.toList = true) {E : Nat → Bool} (hE : Closed ops E) : ∀ (i : Nat) o, ops[i]? = some o → (∀ e ∈ o.after, Region.binds .any e = true → E e.on = true) →
    ∀ m, bit ((depsAll ops.toList []).getD i 0) m = true → E m = true := by
  intro i
  induction i using Nat.strongRecOn with
  | _ i ih =>
    intro o ho hd m hm
    obtain ⟨_, _, h3⟩ := depsAll_spec ops.toList []
    obtain ⟨ds', h4, h5⟩ := h3 i o (by simpa using ho)
    simp only [List.length_nil, Nat.zero_add] at h4 h5
    rw [h4] at hm
    obtain ⟨e, he, hb, hm⟩ := depsOf_bit hm
    have he' : e ∈ o.after := by simpa using he
    have hEe := hd e he' hb
    rcases hm with rfl | hm
    · exact hEe
    · have hlt : e.on < i := by have := backB_get hback i o (by simpa using ho) e he' hb; omega
      rw [h5, if_pos hlt] at hm
      have hsz : e.on < ops.size := by have := (Array.getElem?_eq_some_iff.1 ho).1; omega
      exact ih e.on hlt _ (Array.getElem?_eq_getElem hsz) (fun e2 he2 hb2 => hE e.on hEe _ (Array.getElem?_eq_getElem hsz) e2 he2 hb2) m hm

/-- An operation in order to i has been done just if it stands ahead of it. -/
theorem inOrder_done (hback : backB 0 ops.toList = true) {E : Nat → Bool} (hE : Closed ops E) {i j : Nat} {o : Oper} (ho : ops[i]? = some o) (hd : ∀ e ∈ o.after, Region.binds .any e = true → E e.on = true) (hi : E i = false) (hj : j < ops.size)
    (h : InOrder (depsAll ops.toList []) i j) : E j = decide (j < i) := by
  rcases h with rfl | ⟨hlt, hb⟩ | ⟨hlt, hb⟩
  · simp [hi]
  · rw [reach hback hE i o ho hd j hb]; simp [hlt]
  · have : ¬ (j < i) := by omega
    simp only [this, decide_false]
    cases hEj : E j with
    | false => rfl
    | true =>
      have := reach hback hE j _ (Array.getElem?_eq_getElem hj) (fun e he hb => hE j hEj _ (Array.getElem?_eq_getElem hj) e he hb) i hb
      rw [hi] at this; cases this
end
end Go.Hb

/-
  THE SYMBOLIC LAYER, PART O: the theorem on a region that draws its order.
-/
namespace Go.Hb
open Go.RowKit
section
variable {P : Program} {E : Env} {σ σ' : Nat → Option Value} {S : St} {a : Act} {w w' : World} {ops : Array Oper}

/-- What 'drawn' has seen of one operation. -/
structure Seen (P : Program) (base : Nat) (ops : Array Oper) (sc : List (Nat × An)) (ds : List Nat) (W : List (Option Nat × List Nat)) (i : Nat) (x : D1) (T : St) : Prop where
  is : ∃ o obs, ops[i]? = some o ∧ x.dst = o.dst ∧ x.key = base + i ∧ execG P (base + i) (ansOf sc i) ops.toList o { T with fr := keepS ds W i T.fr, bx := keepB ds W i T.bx } = some (x.eff, obs) ∧ AllP obs
  sl : ∀ t, x.dst = some t → stSlot ds i t 0 W = true
  bo : ∀ k ∈ wBoxes x.key x.eff, stBox ds i k 0 W = true
  wr : W.getD i (none, []) = (x.dst, wBoxes x.key x.eff)

theorem drawn_spec {base : Nat} {sc : List (Nat × An)} {ds : List Nat} {W : List (Option Nat × List Nat)} : ∀ {rest : List Oper} {i : Nat} {T T' : St} {L : List D1} {obs : List Prop},
    drawn P base ops.toList sc ds W i rest T = some (L, T', obs) → AllP obs → ops.toList.drop i = rest →
    L.length = rest.length ∧ T' = foldE (fun _ => true) i L T ∧ ∀ (m : Nat) x, L[m]? = some x → Seen P base ops sc ds W (i + m) x (foldE (fun j => decide (j < i + m)) i L T)
  | [], i, T, T', L, obs, h, ho, hd => by
    simp only [drawn, Option.some.injEq, Prod.mk.injEq] at h
    obtain ⟨rfl, rfl, _⟩ := h
    exact ⟨rfl, rfl, by simp⟩
  | o :: rest, i, T, T', L, obs, h, ho, hd => by
    unfold drawn at h
    split at h
    · rename_i e obs1 he
      split at h
      · rename_i hc
        simp only [Bool.and_eq_true] at hc
        obtain ⟨⟨⟨hc1, hc2⟩, hc3⟩, hc4⟩ := hc
        split at h
        · rename_i L1 T1 obs2 hr
          injection h with h; injection h with h1 h; injection h with h2 h3
          subst h1 h2 h3
          obtain ⟨ho1, ho2⟩ := allP_append.1 ho
          have hi : ops[i]? = some o := by
            have := congrArg (fun l => l[0]?) hd
            simpa using this
          obtain ⟨g1, g2, g3⟩ := drawn_spec hr ho2 (by have := congrArg (List.drop 1) hd; simpa [List.drop_drop] using this)
          refine ⟨by simp [g1], by simp [foldE, g2], fun m x hx => ?_⟩
          cases m with
          | zero =>
            simp at hx; subst hx
            have hnone : ∀ (L : List D1) (j : Nat) (S : St), i < j → foldE (fun q => decide (q < i + 0)) j L S = S := by
              intro L; induction L with
              | nil => intros; rfl
              | cons x L ih =>
                intro j S hj
                simp only [foldE]
                rw [show decide (j < i + 0) = false from by simp; omega]
                exact ih (j + 1) S (by omega)
            have hT : foldE (fun j => decide (j < i + 0)) i ({ dst := o.dst, key := base + i, eff := e } :: L1) T = T := by
              simp only [foldE]
              rw [show decide (i < i + 0) = false from by simp]
              exact hnone L1 (i + 1) T (by omega)
            rw [hT]
            refine ⟨⟨o, obs1, by simpa using hi, rfl, by simp, by simpa using he, ho1⟩, fun t ht => ?_, fun k hk => ?_, ?_⟩
            · simp only at ht
              rw [ht] at hc1
              exact hc1
            · exact allB_get hc2 k hk
            · have e1 := eqL_eq hc3
              have e2 := eqO_eq hc4
              simp only [Nat.add_zero]
              rw [e1, e2]
          | succ m =>
            have := g3 m x (by simpa using hx)
            rw [show i + (m + 1) = i + 1 + m from by omega]
            have hf : foldE (fun j => decide (j < i + 1 + m)) i ({ dst := o.dst, key := base + i, eff := e } :: L1) T = foldE (fun j => decide (j < i + 1 + m)) (i + 1) L1 (e.app T (base + i) o.dst) := by
              simp only [foldE]
              rw [show decide (i < i + 1 + m) = true from by simp; omega]
              rfl
            rw [hf]
            exact this
        · cases h
      · cases h
    · cases h

theorem getD_some {W : List (Option Nat × List Nat)} {j : Nat} {d : Option Nat} {ks : List Nat} (h : W.getD j (none, []) = (d, ks)) (hne : d ≠ none ∨ ks ≠ []) : W[j]? = some (d, ks) := by
  cases hw : W[j]? with
  | none => simp [List.getD, hw] at h; obtain ⟨rfl, rfl⟩ := h; simp at hne
  | some p => simp [List.getD, hw] at h; rw [h]

theorem countP_drop {E : Nat → Bool} {i : Nat} (hi : E i = false) : ∀ (l : List Nat), i ∈ l → l.countP (fun j => !(E j || j == i)) + 1 ≤ l.countP (fun j => !E j)
  | [], h => by simp at h
  | x :: l, h => by
    have hle : ∀ l : List Nat, l.countP (fun j => !(E j || j == i)) ≤ l.countP (fun j => !E j) := fun l => List.countP_mono_left (by intro y _ hy; simp at hy ⊢; exact hy.1)
    simp only [List.countP_cons]
    by_cases hx : x = i
    · subst hx
      have := hle l
      simp [hi]
      simpa using this
    · have hm : i ∈ l := by rcases List.mem_cons.1 h with h | h; exact absurd h.symm hx; exact h
      have ih := countP_drop hi l hm
      have hb : (x == i) = false := by simpa using hx
      simp only [hb, Bool.or_false]
      omega

theorem wpAny_drawn {base : Nat} {sc : List (Nat × An)} {W : List (Option Nat × List Nat)} {L : List D1} {S0 T : St} {σ0 : Nat → Option Value} (hM : base + ops.size ≤ 1000000) (hback : backB 0 ops.toList = true)
    (hL : L.length = ops.size) (hT : T = foldE (fun _ => true) 0 L S0) (hseen : ∀ (m : Nat) x, L[m]? = some x → Seen P base ops sc (depsAll ops.toList []) W m x (foldE (fun j => decide (j < m)) 0 L S0)) :
    ∀ (fuel : Nat) (listed : Array Bool) (σ : Nat → Option Value) (S : St) (a : Act) (w : World), listed.size = ops.size → (List.range ops.size).countP (fun j => !listed.getD j false) ≤ fuel → Closed ops (fun j => listed.getD j false) →
      Rel E σ S a w → Sub (foldE (fun j => listed.getD j false) 0 L S0) S → (∀ k, k % 1000000 < base → σ k = σ0 k) → (∀ j, j < ops.size → listed.getD j false = false → ∀ q, σ (base + j + q * 1000000) = none) → (∀ k, base + ops.size ≤ k % 1000000 → σ k = none) →
      wpAny P .any ops (After E σ0 base ops.size T) fuel listed a w := by
  have fin : ∀ (listed : Array Bool) (σ : Nat → Option Value) (S : St) (a : Act) (w : World), (∀ j, j < ops.size → listed.getD j false = true) → Rel E σ S a w → Sub (foldE (fun j => listed.getD j false) 0 L S0) S → (∀ k, k % 1000000 < base → σ k = σ0 k) → (∀ k, base + ops.size ≤ k % 1000000 → σ k = none) →
      After E σ0 base ops.size T .normal a w := by
    intro listed σ S a w hall hr hs hb hf
    refine ⟨rfl, σ, hr.weaken ?_ (fun t s ht => ?_) (fun k B hk => ?_), hb, hf⟩
    · rw [← hs.nt, hT, foldE_nt, foldE_nt]
    · refine hs.fr t s ?_
      rw [← ht, hT]
      exact foldE_fr _ _ t L 0 S0 S0 (fun j x hx _ => by rw [Nat.zero_add]; exact hall j (by rw [← hL]; exact (List.getElem?_eq_some_iff.1 hx).1)) rfl
    · refine hs.bx k B ?_
      rw [← hk, hT]
      exact foldE_bx _ _ k L 0 S0 S0 (fun j x hx _ => by rw [Nat.zero_add]; exact hall j (by rw [← hL]; exact (List.getElem?_eq_some_iff.1 hx).1)) rfl
  -- where nothing is ready, all has been done
  have done : ∀ (listed : Array Bool), listed.size = ops.size → Region.ready .any ops listed = [] → ∀ j, j < ops.size → listed.getD j false = true := by
    intro listed hsz hr j
    induction j using Nat.strongRecOn with
    | _ j ih =>
      intro hj
      cases hlj : listed.getD j false with
      | true => rfl
      | false =>
        have hlt : listed.getD j true = false := by
          have : j < listed.size := by omega
          simp [this] at hlj ⊢; exact hlj
        have hm : j ∈ Region.ready .any ops listed := by
          rw [mem_ready]
          refine ⟨hlt, _, Array.getElem?_eq_getElem hj, fun e he hbe => ?_⟩
          have := backB_get hback j _ (by simp [hj]) e he hbe
          exact ih e.on (by omega) (by omega)
        rw [hr] at hm; cases hm
  intro fuel
  induction fuel with
  | zero =>
    intro listed σ S a w hsz hcnt hcl hr hs hb hf0 hf
    have hall : ∀ j, j < ops.size → listed.getD j false = true := by
      intro j hj
      have h0 : (List.range ops.size).countP (fun j => !listed.getD j false) = 0 := by omega
      rw [List.countP_eq_zero] at h0
      have := h0 j (by simpa using hj)
      simpa using this
    refine ⟨?_, fin listed σ S a w hall hr hs hb hf⟩
    cases hrd : Region.ready .any ops listed with
    | nil => rfl
    | cons i l =>
      have hm : i ∈ Region.ready .any ops listed := by rw [hrd]; simp
      rw [mem_ready] at hm
      obtain ⟨h0, o, ho, _⟩ := hm
      have hi := (Array.getElem?_eq_some_iff.1 ho).1
      have h1 := hall i hi
      have : i < listed.size := by omega
      simp [this] at h0 h1
      rw [h0] at h1; cases h1
  | succ fuel ih =>
    intro listed σ S a w hsz hcnt hcl hr hs hb hf0 hf
    refine ⟨fun hrd => fin listed σ S a w (done listed hsz hrd) hr hs hb hf, fun i hi => ?_⟩
    rw [mem_ready] at hi
    obtain ⟨h0, o, ho, hdeps⟩ := hi
    have hilt := (Array.getElem?_eq_some_iff.1 ho).1
    have hils : i < listed.size := by omega
    have hif : listed.getD i false = false := by simp [hils] at h0 ⊢; exact h0
    have hx : L[i]? = some (L[i]'(by omega)) := List.getElem?_eq_getElem (by omega)
    generalize hxx : L[i]'(by omega) = x at hx
    have hsn := hseen i x hx
    obtain ⟨o', obs, ho', hxd, hxk, hex, hobs⟩ := hsn.is
    rw [ho] at ho'
    injection ho' with ho'; subst ho'
    -- who writes what i looks at stands in order to it
    have order : ∀ j, j < ops.size → InOrder (depsAll ops.toList []) i j → listed.getD j false = decide (j < i) := fun j hj h => inOrder_done hback (E := fun j => listed.getD j false) hcl ho hdeps hif hj h
    have wS : ∀ (t j : Nat) y, stSlot (depsAll ops.toList []) i t 0 W = true → L[j]? = some y → y.dst = some t → listed.getD j false = decide (j < i) := by
      intro t j y hst hy hd
      have hj : j < ops.size := by rw [← hL]; exact (List.getElem?_eq_some_iff.1 hy).1
      have hw := (hseen j y hy).wr
      have := stSlot_get hst j (wBoxes y.key y.eff) (getD_some (by rw [hw, hd]) (.inl (by simp)))
      rw [Nat.zero_add] at this
      exact order j hj this
    have wB : ∀ (k j : Nat) y, stBox (depsAll ops.toList []) i k 0 W = true → L[j]? = some y → k ∈ wBoxes y.key y.eff → listed.getD j false = decide (j < i) := by
      intro k j y hst hy hk
      have hj : j < ops.size := by rw [← hL]; exact (List.getElem?_eq_some_iff.1 hy).1
      have hw := (hseen j y hy).wr
      have hne : wBoxes y.key y.eff ≠ [] := by intro e; rw [e] at hk; simp at hk
      have := stBox_get hst j y.dst (wBoxes y.key y.eff) (getD_some hw (.inr hne)) hk
      rw [Nat.zero_add] at this
      exact order j hj this
    -- what i looks at is there
    have hsub : Sub { foldE (fun j => decide (j < i)) 0 L S0 with fr := keepS (depsAll ops.toList []) W i (foldE (fun j => decide (j < i)) 0 L S0).fr, bx := keepB (depsAll ops.toList []) W i (foldE (fun j => decide (j < i)) 0 L S0).bx } S := by
      refine ⟨?_, fun t s ht => ?_, fun k B hk => ?_⟩
      · rw [← hs.nt, foldE_nt]; exact (foldE_nt _ _ _ _).symm
      · obtain ⟨h1, h2⟩ := keepS_get ht
        refine hs.fr t s ?_
        rw [← h1]
        exact foldE_fr _ _ t L 0 S0 S0 (fun j y hy hd => by rw [Nat.zero_add]; exact wS t j y h2 hy hd) rfl
      · obtain ⟨h1, h2⟩ := keepB_get hk
        refine hs.bx k B ?_
        rw [← h1]
        exact foldE_bx _ _ k L 0 S0 S0 (fun j y hy hd => by rw [Nat.zero_add]; exact wB k j y h2 hy hd) rfl
    refine wpOp_ok ho hex hobs hsub hr (hf0 i hilt hif) fun σ' a' w' hr' hk => ?_
    have hE' : (fun j => (listed.setIfInBounds i true).getD j false) = fun j => listed.getD j false || j == i := by
      funext j
      by_cases hji : j = i
      · subst hji; simp [hils]
      · have hb' : (j == i) = false := by simpa using hji
        rw [getD_set_ne false (fun e => hji e.symm), hb', Bool.or_false]
    refine ih (listed.setIfInBounds i true) σ' _ a' w' (by simpa using hsz) ?_ ?_ hr' ?_ (fun k hkb => ?_) (fun j hj hlj => ?_) fun k hkb => ?_
    · have := countP_drop (E := fun j => listed.getD j false) hif (List.range ops.size) (by simpa using hilt)
      have he : (fun j => !(listed.setIfInBounds i true).getD j false) = fun j => !(listed.getD j false || j == i) := by
        funext j; rw [congrFun hE' j]
      rw [he]
      omega
    · intro j hj o2 ho2 e he hbe
      by_cases hji : j = i
      · subst hji
        rw [ho] at ho2
        injection ho2 with ho2; subst ho2
        exact getD_set_true (hdeps e he hbe)
      · have hj' : (listed.setIfInBounds i true).getD j false = true := hj
        rw [getD_set_ne false (fun e => hji e.symm)] at hj'
        exact getD_set_true (hcl j hj' o2 ho2 e he hbe)
    · rw [hE']
      refine ⟨?_, fun t s ht => ?_, fun k B hk' => ?_⟩
      · rw [app_nt, foldE_nt, ← hs.nt, foldE_nt]
      · rw [app_fr]
        by_cases hd : o.dst = some t
        · rw [if_pos hd]
          rw [← hxd] at hd
          have hlast := foldE_last_fr (fun j => listed.getD j false || j == i) t L 0 i S0 x hx hd (by simp) (fun m y hm hy hyd => by
            rw [Nat.zero_add]
            have h2 := wS t m y (hsn.sl t hd) hy hyd
            have hb' : (m == i) = false := by simp; omega
            simp only [h2, hb', Bool.or_false, decide_eq_false_iff_not]; omega)
          rw [hlast] at ht
          exact ht
        · rw [if_neg hd]
          refine hs.fr t s ?_
          rw [← ht]
          refine foldE_fr _ _ t L 0 S0 S0 (fun j y hy hyd => ?_) rfl
          rw [Nat.zero_add]
          by_cases hji : j = i
          · subst hji
            rw [hx] at hy; injection hy with hy; subst hy
            rw [hxd] at hyd; exact absurd hyd hd
          · have hb' : (j == i) = false := by simpa using hji
            simp [hb']
      · by_cases hd : k ∈ wBoxes x.key x.eff
        · have hlast := foldE_last_bx (fun j => listed.getD j false || j == i) k L 0 i S0 x hx hd (by simp) (fun m y hm hy hyd => by
            rw [Nat.zero_add]
            have h2 := wB k m y (hsn.bo k hd) hy hyd
            have hb' : (m == i) = false := by simp; omega
            simp only [h2, hb', Bool.or_false, decide_eq_false_iff_not]; omega)
          rw [hlast] at hk'
          rw [hxk] at hd hk'
          rw [app_bx_in _ _ _ _ _ hd]
          exact hk'
        · rw [hxk] at hd
          rw [app_bx_out _ _ _ _ _ hd]
          refine hs.bx k B ?_
          rw [← hk']
          refine foldE_bx _ _ k L 0 S0 S0 (fun j y hy hyd => ?_) rfl
          rw [Nat.zero_add]
          by_cases hji : j = i
          · subst hji
            rw [hx] at hy; injection hy with hy; subst hy
            rw [hxk] at hyd; exact absurd hyd hd
          · have hb' : (j == i) = false := by simpa using hji
            simp [hb']
    · rw [hk k (fun j => by omega)]; exact hb k hkb
    · have hji : j ≠ i := by rintro rfl; simp [hils] at hlj
      rw [getD_set_ne false (fun e => hji e.symm)] at hlj
      intro q
      rw [hk _ (fun p => by omega)]; exact hf0 j hj hlj q
    · rw [hk k (fun j => by omega)]; exact hf k hkb
end

/-- A region, of either kind. -/
def region (P : Program) (base : Nat) (ops : Array Oper) (draw : Bool) (sc : List (Nat × An)) (S : St) : Option (St × List Prop) :=
  match Nat.ble (base + ops.toList.length) 1000000 with
  | false => none
  | true => match draw with
  | false => match execOps P base ops.toList sc 0 ops.toList S with
    | some (S', obs) => some ({ S' with nx := base + ops.toList.length }, obs)
    | none => none
  | true => match backB 0 ops.toList, writesOf P base ops.toList sc 0 ops.toList S with
    | true, some W => match drawn P base ops.toList sc (depsAll ops.toList []) W 0 ops.toList S with
      | some (_, S', obs) => some ({ S' with nx := base + ops.toList.length }, obs)
      | none => none
    | _, _ => none

theorem Rel.nx {E : Env} {σ : Nat → Option Value} {S : St} {a : Act} {w : World} (h : Rel E σ S a w) (n : Nat) : Rel E σ { S with nx := n } a w := ⟨h.toMem, h.dfs, h.nt, h.fr⟩

theorem After.nx {E : Env} {σ : Nat → Option Value} {base n m : Nat} {S : St} (e : Exit) (a : Act) (w : World) (h : After E σ base n S e a w) : After E σ base n { S with nx := m } e a w := by
  obtain ⟨h1, σ', h2, h3, h4⟩ := h
  exact ⟨h1, σ', h2.nx m, h3, h4⟩

theorem wp_region_sym {P : Program} {E : Env} {σ : Nat → Option Value} {S S' : St} {a : Act} {w : World} {id base : Nat} {ops : Array Oper} {draw : Bool} {sc : List (Nat × An)} {obs : List Prop} (hm : P.follows .mixedOrders = true)
    (he : region P base ops draw sc S = some (S', obs)) (ho : AllP obs) (h : Rel E σ S a w) (hf : ∀ k, base ≤ k % 1000000 → σ k = none) :
    (Code.region id ops draw).wp P (After E σ base ops.size S') a w := by
  have hlen : ops.toList.length = ops.size := by simp
  unfold region at he
  split at he
  · cases he
  rename_i hMb
  have hM : base + ops.size ≤ 1000000 := by have := Nat.le_of_ble_eq_true hMb; rwa [hlen] at this
  split at he
  · split at he
    · rename_i S1 obs1 h1
      injection he with he; injection he with h2 h3; subst h2 h3
      have := execOps_ok (σ0 := σ) (ops := ops) h1 ho rfl (Nat.zero_le _) h (fun _ _ => rfl) (by simpa using hf) hM
      rw [hlen, ← List.range_eq_range'] at this
      exact wp_mono (wp_region this) After.nx
    · cases he
  · split at he
    · rename_i W hback hW
      split at he
      · rename_i L S1 obs1 h1
        injection he with he; injection he with h2 h3; subst h2 h3
        obtain ⟨g1, g2, g3⟩ := drawn_spec (ops := ops) h1 ho rfl
        refine wp_mono (wp_region_any hm ?_) After.nx
        have hno : ∀ j, (Array.replicate ops.size false).getD j false = false := by
          intro j; by_cases hj : j < ops.size <;> simp [hj]
        have hfold : ∀ (L : List D1) (i : Nat) (S : St), foldE (fun j => (Array.replicate ops.size false).getD j false) i L S = S := by
          intro L; induction L with
          | nil => intros; rfl
          | cons x L ih => intro i S; rw [foldE, hno, cond_false]; exact ih _ _
        refine wpAny_drawn (P := P) (E := E) (σ0 := σ) (T := S1) (S0 := S) (W := W) (sc := sc) (L := L) hM hback (by rw [g1]; exact hlen) g2 (fun m x hx => by have := g3 m x hx; rw [Nat.zero_add] at this; exact this)
          ops.size _ σ S a _ (by simp) ?_ ?_ (h.grown (grownBy_drew w _ none)) ?_ (fun _ _ => rfl) (fun j _ _ q => hf _ (by omega)) (fun k hk => hf k (by omega))
        · exact Nat.le_trans (List.countP_le_length) (by simp)
        · intro j hj
          have hj' : (Array.replicate ops.size false).getD j false = true := hj
          rw [hno] at hj'; cases hj'
        · rw [hfold]; exact Sub.refl S
      · cases he
    · cases he
end Go.Hb

/-
  THE SYMBOLIC LAYER, PART P: from a point of a function's code on ('GoTo'); a contract out of it ('spec_of').
-/
namespace Go.Hb
open Go.RowKit

/-- From this point on the function hands back 'res', and leaves the boxes 'bx1'. -/
def GoTo (P : Program) (f : FuncId) (m : Nat) (res : V) (bx1 : List (Nat × Box)) (todo : List Item) (S : St) : Prop :=
  ∀ (E : Env) (σ : Nat → Option Value) (a : Act) (w : World) (b : Frame) (cs : List Frame), b.fn = f → b.kind = .normal → Rel E σ S a w → (∀ k, S.nx ≤ k % 1000000 → σ k = none) → m ≤ S.nx →
    ∃ e w' fr, Comes P (lone (b.at a todo) cs w) (lone fr cs w') e ∧ fr.fn = f ∧ fr.leaving P w' e ∧ ∃ v σ', e = .returned v ∧ (∀ k, k < m → σ' k = σ k) ∧ CV σ' w' (badOf E σ' bx1) res v ∧ Mem E σ' bx1 w'

section
variable (P : Program)
/-- The results, read out of the slots and the boxes. -/
def evRes (S : St) : List ResultVar → Option (List V)
  | [] => some []
  | .tmp t :: l => match aget S.fr t, evRes S l with
    | some s, some r => some (s :: r)
    | _, _ => none
  | .cell p t :: l => match evLoad P S t (.tmp p) .no, evRes S l with
    | some (s, []), some r => some (s :: r)
    | _, _ => none

def packRes : List V → V
  | [s] => s
  | l => .tup l
end

/-- At the end: the results are there. -/
def Fin (P : Program) (f : FuncId) (m : Nat) (res : V) (bx1 : List (Nat × Box)) (S : St) : Prop :=
  ∃ fn, P.funcs[f]? = some fn ∧ ∀ (E : Env) (σ : Nat → Option Value) (a : Act) (w : World), Rel E σ S a w → (∀ k, S.nx ≤ k % 1000000 → σ k = none) → m ≤ S.nx →
    ∃ v σ', (results fn a.tmps).run P w = .ok v w ∧ (∀ k, k < m → σ' k = σ k) ∧ CV σ' w (badOf E σ' bx1) res v ∧ Mem E σ' bx1 w

section
variable {P : Program} {f : FuncId} {m : Nat} {res : V} {bx1 : List (Nat × Box)} {E : Env} {σ σ' : Nat → Option Value} {S S' : St} {a : Act} {w : World}

theorem GoTo.onto {todo todo' : List Item} (hs : ∀ (b : Frame) (a : Act) (cs : List Frame) (w : World), step P (lone (b.at a todo) cs w) = .next (lone (b.at a todo') cs w)) (h : GoTo P f m res bx1 todo' S) : GoTo P f m res bx1 todo S := by
  intro E σ a w b cs hb hk hr hf hnx
  obtain ⟨e, w', fr, h1, h2⟩ := h E σ a w b cs hb hk hr hf hnx
  exact ⟨e, w', fr, h1.of_steps (.one (hs b a cs w)), h2⟩

theorem GoTo.fin {todo : List Item} (hs : ∀ (b : Frame) (a : Act) (cs : List Frame) (w : World), ∃ todo', Go.step P (lone (b.at a todo) cs w) = .next (lone { b.at a todo' with mode := .returning } cs w)) (h : Fin P f m res bx1 S) : GoTo P f m res bx1 todo S := by
  intro E σ a w b cs hb hk hr hf hnx
  obtain ⟨fn, hfn, h⟩ := h
  obtain ⟨v, σ', h1, h2, h3, h4⟩ := h E σ a w hr hf hnx
  obtain ⟨todo', hst⟩ := hs b a cs w
  refine ⟨.returned v, w, { b.at a todo' with mode := .returning }, .one hst, hb, ⟨rfl, hr.dfs, hk, fn, by show P.funcs[b.fn]? = some fn; rw [hb]; exact hfn, h1⟩, v, σ', rfl, h2, h3, h4⟩

theorem region_nx {base : Nat} {ops : Array Oper} {draw : Bool} {sc : List (Nat × An)} {S S1 : St} {obs : List Prop} (hreg : region P base ops draw sc S = some (S1, obs)) : S1.nx = base + ops.size := by
  unfold region at hreg
  split at hreg
  · cases hreg
  split at hreg
  · split at hreg
    · injection hreg with hreg; injection hreg with h3 h4; subst h3; simp
    · cases hreg
  · split at hreg
    · split at hreg
      · injection hreg with hreg; injection hreg with h3 h4; subst h3; simp
      · cases hreg
    · cases hreg

/-- The heads of a function's loops, in the order of the text. -/
def loops : Code → List Item → List (List Item)
  | .seq a b, k => loops a (.code b :: k) ++ loops b k
  | .cond _ x y, k => loops x k ++ loops y k
  | .block id c, k => loops c (.inBlock id :: k)
  | .loop c, k => (.code c :: .inLoop c :: k) :: loops c (.inLoop c :: k)
  | _, _ => []

def bodyOf (fn : Func) : Code :=
  match fn.body with
  | some c => c
  | none => .skip

def headOf (fn : Func) (n : Nat) : List Item := (loops (bodyOf fn) []).getD n []

/-- Each region with what is to be done from it on. -/
def regs : Code → List Item → List (Nat × List Item)
  | .seq a b, k => regs a (.code b :: k) ++ regs b k
  | .cond _ x y, k => regs x k ++ regs y k
  | .block id c, k => regs c (.inBlock id :: k)
  | .loop c, k => regs c (.inLoop c :: k)
  | .region id ops d, k => [(id, .code (.region id ops d) :: k)]
  | _, _ => []

def cutOf (fn : Func) (id : Nat) : List Item :=
  match aget (regs (bodyOf fn) []) id with
  | some l => l
  | none => []

def numFr : Nat → List V → List (Nat × V)
  | _, [] => []
  | i, s :: l => (i, s) :: numFr (i + 1) l

theorem numFr_get : ∀ {l : List V} {i t : Nat} {s : V}, aget (numFr i l) t = some s → i ≤ t ∧ l[t - i]? = some s
  | [], i, t, s, h => by simp [numFr, aget] at h
  | x :: l, i, t, s, h => by
    simp only [numFr, aget] at h
    split at h
    · rename_i hb
      rw [Nat.beq_eq] at hb
      subst hb
      injection h with h; subst h
      exact ⟨Nat.le_refl _, by simp⟩
    · rename_i hb
      obtain ⟨h1, h2⟩ := numFr_get h
      refine ⟨by omega, ?_⟩
      rw [show t - i = (t - (i + 1)) + 1 from by omega]
      simpa using h2

/-- Where a call begins. -/
def St0 (fn : Func) (m : Nat) (args : List V) (bx : List (Nat × Box)) : St := { nt := fn.ntmps, nx := m, fr := numFr 0 args, bx := bx }

/-- A contract, by a run through the function's code. -/
theorem spec_of {fn : Func} {args : List V} {bx : List (Nat × Box)} (hf : P.funcs[f]? = some fn) (hname : (fn.name == "runtime.NumGoroutine") = false) (hb : fn.body = some (bodyOf fn)) (hn : args.length ≤ fn.ntmps) 
    (h : GoTo P f m res bx1 [.code (bodyOf fn)] (St0 fn m args bx)) : Spec P f m args bx res bx1 := by
  refine ⟨enters_of hf hname hb, fun E σ vals hmem hσ hsz hargs cs => ?_⟩
  have henter : Frame.enter P f vals .normal = ({ (default : Frame) with fn := f, kind := .normal } : Frame).at { tmps := vals ++ Array.replicate (fn.ntmps - vals.size) undef, defers := [] } [.code (bodyOf fn)] := by
    simp [Frame.enter, Frame.at, hf, hb]
  have hrel : Rel E σ (St0 fn m args bx) { tmps := vals ++ Array.replicate (fn.ntmps - vals.size) undef, defers := [] } E.w0 := by
    refine ⟨hmem, rfl, ?_, fun t s ht => ?_⟩
    · simp [St0]; omega
    · obtain ⟨_, h2⟩ := numFr_get (show aget (numFr 0 args) t = some s from ht)
      rw [Nat.sub_zero] at h2
      obtain ⟨v, hv, hc⟩ := hargs t s h2
      refine ⟨v, ?_, hc⟩
      have := (Array.getElem?_eq_some_iff.1 hv).1
      rw [Array.getElem?_append, if_pos this]; exact hv
  obtain ⟨e, w', fr, h1, h2, h3, v, σ', h4, h5, h6, h7⟩ := h E σ _ E.w0 { (default : Frame) with fn := f, kind := .normal } cs rfl rfl hrel (fun k hk => hσ k (by have hk : m ≤ k % 1000000 := hk; omega)) (Nat.le_refl _)
  rw [← henter] at h1
  exact ⟨e, w', fr, ⟨v, σ', h4, h5, h6, h7⟩, h1, h2, h3⟩
end
end Go.Hb

/-
  THE SYMBOLIC LAYER, PART Q: saying less of a state ('Ent'), the end of a function.
-/
namespace Go.Hb
open Go.RowKit

/-- Whatever s says, r says no more. -/
def Le (s r : V) : Prop := ∀ (σ : Nat → Option Value) (w : World) (bad : Nat → Prop) (v : Value), CV σ w bad s v → CV σ w bad r v

theorem Le.refl (s : V) : Le s s := fun _ _ _ _ h => h
theorem Le.of_eq {s r : V} (h : s = r) : Le s r := h ▸ Le.refl s
theorem Le.trans {s r q : V} (h : Le s r) (k : Le r q) : Le s q := fun σ w bad v hv => k σ w bad v (h σ w bad v hv)
theorem Le.junk (s : V) : Le s .junk := fun _ _ _ _ _ => .junk
theorem Le.tt (b : Bool) : Le (.tt b) (.bool b) := fun _ _ _ v hv => by
  cases hv with
  | data hd => cases hd; exact .data .bool
theorem Le.nil (sz : Nat) (f : Nat → List V) : Le .nilsl (.seq sz 0 f) := fun _ _ _ v hv => by
  cases hv with
  | data hd => cases hd; exact .data (.seq none 0 0 0 (fun _ _ => undef) (by simp) (Nat.le_refl _) (by simp) (by simp) (by simp) (fun _ => rfl))
theorem Le.esl (sz : Nat) (f : Nat → List V) : Le .esl (.seq sz 0 f) := fun _ _ _ v hv => by
  cases hv with
  | data hd => cases hd; exact .data (.seq _ 0 0 _ (fun _ _ => undef) (by simp) (Nat.zero_le _) (by simp) (by simp) (by simp) (fun h => by cases h))
theorem CD.seq_congr {w : World} {bad : Nat → Prop} {sz n : Nat} {f g : Nat → List V} (h : ∀ i, i < n → f i = g i) {v : Value} (hv : CD w bad (.seq sz n f) v) : CD w bad (.seq sz n g) v := by
  cases hv with
  | seq o b off c u ho hnc hl hc hd hz =>
    exact .seq o b off c u ho hnc (fun i hi => by rw [← h i hi]; exact hl i hi) hc (fun i j s hi hs => hd i j s hi (by rw [h i hi]; exact hs)) hz
theorem Le.seq {sz n n' : Nat} {f g : Nat → List V} (hn : n = n') (h : ∀ i, i < n → f i = g i) : Le (.seq sz n f) (.seq sz n' g) := fun _ _ _ v hv => by
  subst hn
  cases hv with
  | data hd => exact .data (hd.seq_congr h)

/-- Cells, one by one. -/
inductive LeL : List V → List V → Prop
  | nil : LeL [] []
  | cons {s r : V} {l m : List V} (h : Le s r) (t : LeL l m) : LeL (s :: l) (r :: m)

theorem LeL.refl : ∀ l : List V, LeL l l
  | [] => .nil
  | _ :: l => .cons (Le.refl _) (LeL.refl l)

theorem LeL.get {l m : List V} (h : LeL l m) : l.length = m.length ∧ ∀ (j : Nat) (r : V), m[j]? = some r → ∃ s, l[j]? = some s ∧ Le s r := by
  induction h with
  | nil => simp
  | cons h t ih =>
    refine ⟨by simp [ih.1], fun j r hj => ?_⟩
    cases j with
    | zero => simp at hj; subst hj; exact ⟨_, rfl, h⟩
    | succ j => simpa using ih.2 j r (by simpa using hj)

theorem Le.agg {l m : List V} (h : LeL l m) : Le (.agg l) (.agg m) := fun σ w bad v hv => by
  obtain ⟨h1, h2⟩ := h.get
  cases hv with
  | data hd => cases hd
  | agg vs u hs hvs h3 hd =>
    refine .agg vs u (by omega) (fun j hj => hvs j (by omega)) (fun j hj => h3 j (by omega)) fun j r hj => ?_
    obtain ⟨s, hs', hle⟩ := h2 j r hj
    exact hle _ _ _ _ (hd j s hs')
theorem Le.tup {l m : List V} (h : LeL l m) : Le (.tup l) (.tup m) := fun σ w bad v hv => by
  obtain ⟨h1, h2⟩ := h.get
  cases hv with
  | data hd => cases hd
  | tup vs u hs hvs hd =>
    refine .tup vs u (by omega) (fun j hj => hvs j (by omega)) fun j r hj => ?_
    obtain ⟨s, hs', hle⟩ := h2 j r hj
    exact hle _ _ _ _ (hd j s hs')

/-- The same of boxes. -/
def LeB (B C : Box) : Prop := ∀ (σ : Nat → Option Value) (w : World) (bad : Nat → Prop) (k : Nat), BRel σ w bad k B → BRel σ w bad k C
theorem LeB.refl (B : Box) : LeB B B := fun _ _ _ _ h => h
theorem LeB.of_eq {B C : Box} (h : B = C) : LeB B C := h ▸ LeB.refl B
theorem LeB.cells {ty : Nat} {l m : List V} (h : LeL l m) : LeB (.cells ty l) (.cells ty m) := fun σ w bad k hB => by
  obtain ⟨h1, h2⟩ := h.get
  cases hB with
  | cells b cs hk hh hs hc =>
    refine .cells b cs hk hh (by omega) fun j r hj => ?_
    obtain ⟨s, hs', hle⟩ := h2 j r hj
    obtain ⟨v, h3, h4, h5⟩ := hc j s hs'
    exact ⟨v, h3, hle _ _ _ _ h4, h5⟩
theorem LeB.vec {ty sz n n' : Nat} {f g : Nat → List V} (hn : n = n') (h : ∀ i, i < n → f i = g i) : LeB (.vec ty sz n f) (.vec ty sz n' g) := fun σ w bad k hB => by
  subst hn
  cases hB with
  | vec v xs hk ho hl hc => exact .vec v xs hk ho (fun i hi => by rw [← h i hi]; exact hl i hi) (fun i j s hi hs => hc i j s hi (by rw [h i hi]; exact hs))
theorem LeB.mapB {n n' : Nat} {f g : Int → Option Bool} (hn : n = n') (h : ∀ i, f i = g i) : LeB (.mapB n f) (.mapB n' g) := by
  obtain rfl : f = g := funext h
  subst hn; exact LeB.refl _
theorem LeB.mapI {n n' : Nat} {f g : Int → Option Int} (hn : n = n') (h : ∀ i, f i = g i) : LeB (.mapI n f) (.mapI n' g) := by
  obtain rfl : f = g := funext h
  subst hn; exact LeB.refl _

def Box.ltB (n : Nat) : Box → Bool
  | .cells _ l => V.ltL n l
  | _ => true

def entBx (S : List (Nat × Box)) : List (Nat × Box) → Option (List Prop)
  | [] => some []
  | (k, r) :: l => match aget S k, entBx S l with
    | some s, some obs => some (LeB s r :: obs)
    | _, _ => none
section
variable {P : Program} {f : FuncId} {m : Nat} {res : V} {bx1 : List (Nat × Box)} {E : Env} {σ σ' : Nat → Option Value} {S S' : St} {a : Act} {w : World}

theorem entBx_get {F : List (Nat × Box)} : ∀ {l : List (Nat × Box)} {obs : List Prop}, entBx F l = some obs → AllP obs → ∀ t r, aget l t = some r → ∃ s, aget F t = some s ∧ LeB s r
  | [], _, _, _, t, r, h => by simp [aget] at h
  | (u, x) :: l, obs, he, ho, t, r, h => by
    unfold entBx at he
    split at he
    · rename_i s obs' hs hobs
      injection he with he; subst he
      simp only [aget] at h
      split at h
      · rename_i hb
        rw [Nat.beq_eq] at hb; subst hb
        injection h with h; subst h
        exact ⟨s, hs, ho.1⟩
      · exact entBx_get hobs ho.2 t r h
    · cases he
/-- Keys from n on forgotten. -/
theorem BRel.restrict {bad bad' : Nat → Prop} {n k : Nat} {B : Box} (hσ : ∀ k, k < n → σ' k = σ k) (hb : ∀ b, ¬ bad b → ¬ bad' b) (h : BRel σ w bad k B) (hk : k < n) (hB : Box.ltB n B = true) : BRel σ' w bad' k B := by
  have hm : ∀ b, b < w.heap.size → ¬ bad b → ¬ bad' b ∧ w.heap[b]? = w.heap[b]? := fun b _ h => ⟨hb b h, rfl⟩
  cases h with
  | cells b cs h1 hh hs hc =>
    refine .cells b cs (by rw [hσ k hk]; exact h1) hh hs fun j s hj => ?_
    obtain ⟨v, h2, h3, h4⟩ := hc j s hj
    exact ⟨v, h2, (h3.restrict (σ' := σ') (fun k v hk hv => by rw [hσ k hk]; exact hv) (ltL_get hB j s hj)).mono (fun _ _ h => h) hm, h4⟩
  | vec v xs h1 ho hl hc =>
    exact .vec v xs (by rw [hσ k hk]; exact h1) ho hl fun i j s hi hj => by obtain ⟨x, h2, h3⟩ := hc i j s hi hj; exact ⟨x, h2, h3.mono hm⟩
  | mapB r h1 h => exact .mapB r (by rw [hσ k hk]; exact h1) h
  | mapI r h1 h => exact .mapI r (by rw [hσ k hk]; exact h1) h
  | mapF r h1 h => exact .mapF r (by rw [hσ k hk]; exact h1) h

theorem packRes_run {fn : Func} {rs : List V} (h : evRes P S fn.results.toList = some rs) (hr : Rel E σ S a w) : ∃ v, (results fn a.tmps).run P w = .ok v w ∧ CV σ w (badOf E σ S.bx) (packRes rs) v := by
  have key : ∀ (l : List ResultVar) (rs : List V), evRes P S l = some rs → ∃ vs : List Value, (l.mapM (fun
      | .tmp t => pure (a.tmps.getD t undef)
      | .cell p t => do loadVar t (← asAddr (a.tmps.getD p undef)) : ResultVar → Sem Value)).run P w = .ok vs w ∧ vs.length = rs.length ∧ ∀ (j : Nat) (s : V), rs[j]? = some s → ∃ v, vs[j]? = some v ∧ CV σ w (badOf E σ S.bx) s v := by
    intro l
    induction l with
    | nil => intro rs h; simp [evRes] at h; subst h; exact ⟨[], rfl, rfl, by simp⟩
    | cons x l ih =>
      intro rs h
      cases x with
      | tmp t =>
        simp only [evRes] at h
        split at h
        · rename_i s r hs hrr
          injection h with h; subst h
          obtain ⟨vs, h1, h2, h3⟩ := ih r hrr
          obtain ⟨v, hv, hc⟩ := hr.fr t s hs
          refine ⟨v :: vs, ?_, by simp [h2], fun j s' hj => ?_⟩
          · have hg : a.tmps.getD t undef = v := by simp [hv]
            simp only [List.mapM_cons, Sem.run_bind, Sem.run_pure, Result.andThen_ok, hg, h1]
          · cases j with
            | zero => simp at hj; subst hj; exact ⟨v, rfl, hc⟩
            | succ j => simpa using h3 j s' (by simpa using hj)
        · cases h
      | cell p t =>
        simp only [evRes] at h
        split at h
        · rename_i s r hs hrr
          injection h with h; subst h
          obtain ⟨vs, h1, h2, h3⟩ := ih r hrr
          obtain ⟨v, hv, hc⟩ := evLoad_ok hs trivial (Sub.refl S) hr
          refine ⟨v :: vs, ?_, by simp [h2], fun j s' hj => ?_⟩
          · have hload : (do loadVar t (← asAddr (a.tmps.getD p undef)) : Sem Value).run P w = .ok v w := by
              have hv' := hv
              simp only [Instr.loadAt, Act.eval] at hv'
              generalize a.tmps.getD p undef = y at hv'
              cases y with
              | pointer q => cases q with
                | none => simp [Instr.sureAddr, stuck, Sem.run] at hv'
                | some ad => simpa [Instr.sureAddr, asAddr] using hv'
              | _ => simp [Instr.sureAddr, stuck, Sem.run] at hv'
            simp only [List.mapM_cons, Sem.run_bind] at hload ⊢
            rw [hload]
            simp only [Result.andThen_ok, h1, Sem.run_pure]
          · cases j with
            | zero => simp at hj; subst hj; exact ⟨v, rfl, hc⟩
            | succ j => simpa using h3 j s' (by simpa using hj)
        · cases h
  obtain ⟨vs, h1, h2, h3⟩ := key _ rs h
  have hmap : (fn.results.mapM (fun
      | .tmp t => pure (a.tmps.getD t undef)
      | .cell p t => do loadVar t (← asAddr (a.tmps.getD p undef)) : ResultVar → Sem Value)).run P w = .ok vs.toArray w := by
    rw [← Array.toArray_toList (xs := fn.results), List.mapM_toArray, map_eq_pure_bind, Sem.run_bind, h1]
    rfl
  refine ⟨if h : vs.toArray.size = 1 then vs.toArray[0] else .tuple vs.toArray, ?_, ?_⟩
  · unfold results
    rw [Sem.run_bind]
    exact congrArg (fun r => Result.andThen r _) hmap
  · match rs, vs, h2, h3 with
    | [s], [v], _, h3 => simpa [packRes] using h3 0 s rfl
    | [], [], _, h3 => simp [packRes]; exact .tup #[] (fun _ => undef) rfl (by simp) (by simp)
    | s1 :: s2 :: rs, v1 :: v2 :: vs, h2, h3 =>
      have hne : ¬ ((v1 :: v2 :: vs).toArray.size = 1) := by simp
      rw [dif_neg hne]
      simp only [packRes]
      refine .tup _ (fun j => (v1 :: v2 :: vs).getD j undef) (by simpa using h2) (fun j hj => ?_) fun j s hj => ?_
      · obtain ⟨v, hv, _⟩ := h3 j _ (List.getElem?_eq_getElem hj)
        simp only [List.getElem?_toArray, hv, List.getD, Option.getD_some]
      · obtain ⟨v, hv, hc⟩ := h3 j s hj
        simpa [List.getD, hv] using hc

/-- The end, where boxes are handed back as they are. -/
theorem fin_of {fn : Func} {rs : List V} {obs : List Prop} (hf : P.funcs[f]? = some fn) (h : evRes P S fn.results.toList = some rs) (hle : Le (packRes rs) res) (hb : entBx S.bx bx1 = some obs) (ho : AllP obs) : Fin P f m res bx1 S := by
  refine ⟨fn, hf, fun E σ a w hr hff hnx => ?_⟩
  obtain ⟨v, h1, h2⟩ := packRes_run h hr
  have hbad : ∀ b, ¬ badOf E σ S.bx b → ¬ badOf E σ bx1 b := by
    intro b hn
    rintro (h0 | ⟨k, B, hg, hkb⟩)
    · exact hn (.inl h0)
    · obtain ⟨C, hC, _⟩ := entBx_get hb ho k B hg
      exact hn (.inr ⟨k, C, hC, hkb⟩)
  have hmono : ∀ b, b < w.heap.size → ¬ badOf E σ S.bx b → ¬ badOf E σ bx1 b ∧ w.heap[b]? = w.heap[b]? := fun b _ hn => ⟨hbad b hn, rfl⟩
  refine ⟨v, σ, h1, fun _ _ => rfl, (hle _ _ _ _ h2).mono (fun _ _ h => h) hmono, ⟨fun k B hg => ?_, fun k B b hg hkb => ?_, fun k k' B B' b hg hg' hkb hkb' => ?_, hr.os, hr.tape, hr.output, hr.size, hr.old, hr.hbad⟩⟩
  · obtain ⟨C, hC, hle'⟩ := entBx_get hb ho k B hg
    have hbb := hle' _ _ _ _ (hr.box k C hC)
    exact hbb.mono (fun _ _ h => h) hmono (fun _ _ => rfl)
  · obtain ⟨C, hC, _⟩ := entBx_get hb ho k B hg
    exact hr.own k C b hC hkb
  · obtain ⟨C, hC, _⟩ := entBx_get hb ho k B hg
    obtain ⟨C', hC', _⟩ := entBx_get hb ho k' B' hg'
    exact hr.dist k k' C C' b hC hC' hkb hkb'

/-- The end of a function that hands back a row of its own. -/
theorem fin_vec {fn : Func} {k ty sz n n' : Nat} {g g' : Nat → List V} (hf : P.funcs[f]? = some fn) (h : evRes P S fn.results.toList = some [.vec k]) (h0 : aget S.bx k = some (.vec ty sz n g)) (hn : n = n') (hg : ∀ i, i < n → g i = g' i) :
    Fin P f 0 (.vec 0) [(0, .vec ty sz n' g')] S := by
  subst hn
  refine ⟨fn, hf, fun E σ a w hr hff hnx => ?_⟩
  obtain ⟨v, h1, h2⟩ := packRes_run h hr
  cases h2 with
  | data hd => cases hd
  | vec v hv =>
    have hone : ∀ q B, aget [((0 : Nat), Box.vec ty sz n g')] q = some B → q = 0 ∧ B = .vec ty sz n g' := by
      intro q B hq
      simp only [aget] at hq
      split at hq
      · rename_i hb
        rw [Nat.beq_eq] at hb
        injection hq with hq
        exact ⟨hb.symm, hq.symm⟩
      · cases hq
    have hbad : ∀ b, ¬ badOf E σ S.bx b → ¬ badOf E (fun q => if q = 0 then σ k else none) [((0 : Nat), Box.vec ty sz n g')] b := by
      intro b hnb
      rintro (h3 | ⟨q, B, hq, hqb⟩)
      · exact hnb (.inl h3)
      · obtain ⟨rfl, rfl⟩ := hone q B hq
        exact hnb (.inr ⟨k, _, h0, by simpa using hqb⟩)
    refine ⟨v, fun q => if q = 0 then σ k else none, h1, fun q hq => absurd hq (Nat.not_lt_zero q), .vec v (by simpa using hv), ⟨fun q B hq => ?_, fun q B b hq hqb => ?_, fun q q' B B' b hq hq' _ _ => ?_, hr.os, hr.tape, hr.output, hr.size, hr.old, hr.hbad⟩⟩
    · obtain ⟨rfl, rfl⟩ := hone q B hq
      cases hr.box k _ h0 with
      | vec v' xs hk ho hl hc =>
        refine .vec v' xs (by simpa using hk) ho (fun i hi => by rw [← hg i hi]; exact hl i hi) fun i j s hi hs => ?_
        obtain ⟨x, h3, h4⟩ := hc i j s hi (by rw [hg i hi]; exact hs)
        exact ⟨x, h3, h4.mono fun b _ hnb => ⟨hbad b hnb, rfl⟩⟩
    · obtain ⟨rfl, rfl⟩ := hone q B hq
      exact hr.own k _ b h0 (by simpa using hqb)
    · rw [(hone q B hq).1, (hone q' B' hq').1]
end
end Go.Hb

/-
  THE SYMBOLIC LAYER, PART R: the own boxes under other keys, or taken for data ('mapK'); running on to the next loop's head or the end ('seg').
-/
namespace Go.Hb
open Go.RowKit

section
variable {P : Program} {f : FuncId} {m : Nat} {res : V} {bx1 : List (Nat × Box)} {E : Env} {σ σ' : Nat → Option Value} {S S' : St} {a : Act} {w : World} {bad bad' : Nat → Prop}

/-- OTHER KEYS, and fewer boxes: 'R': (new, old). -/
def findR (R : List (Nat × Nat)) (k : Nat) : List (Nat × Nat) → Option Nat
  | [] => none
  | (n, o) :: l => match Nat.beq o k, aget R n with
    | true, some q => match Nat.beq q k with
      | true => some n
      | false => none
    | _, _ => findR R k l

def renV (R : List (Nat × Nat)) : V → V
  | .ptr k off => match findR R k R with | some n => .ptr n off | none => .junk
  | .row k off len cap => match findR R k R with | some n => .row n off len cap | none => .junk
  | .vec k => match findR R k R with | some n => .vec n | none => .junk
  | .vptr k sz i off => match findR R k R with | some n => .vptr n sz i off | none => .junk
  | .map k => match findR R k R with | some n => .map n | none => .junk
  | .tail k sz lo => match findR R k R with | some n => .tail n sz lo | none => .junk
  | _ => .junk

def selFr (F : List (Nat × V)) : List Nat → Option (List (Nat × V))
  | [] => some []
  | t :: l => match aget F t, selFr F l with
    | some s, some r => some ((t, s) :: r)
    | _, _ => none
def selBx (X : List (Nat × Box)) : List (Nat × Nat) → Option (List (Nat × Box))
  | [] => some []
  | (n, o) :: l => match aget X o, selBx X l with
    | some s, some r => some ((n, s) :: r)
    | _, _ => none

def okR (nx : Nat) : List (Nat × Nat) → Bool
  | [] => true
  | (n, o) :: l => Nat.blt n nx && (match aget (l.map fun p => (p.2, ())) o with | some _ => false | none => true) && okR nx l

def ownR (R : List (Nat × Nat)) : Nat → Bool
  | 0 => true
  | k + 1 => (match aget R k with | some q => Nat.beq q k | none => false) && ownR R k

/-- Some slots, and some boxes under new keys. -/
def sel (m nx : Nat) (fs : List Nat) (R : List (Nat × Nat)) (S : St) : Option St :=
  match okR nx R && ownR R m && Nat.ble m nx, selFr S.fr fs, selBx S.bx R with
  | true, some F, some X => some { nt := S.nt, nx := nx, fr := mapFr (renV R) F, bx := mapBx (renV R) X }
  | _, _, _ => none

theorem findR_ok {R : List (Nat × Nat)} {k : Nat} : ∀ {l : List (Nat × Nat)} {n : Nat}, findR R k l = some n → aget R n = some k
  | [], n, h => by simp [findR] at h
  | (x, o) :: l, n, h => by
    unfold findR at h
    split at h
    · rename_i hx
      split at h
      · rename_i hq
        rw [Nat.beq_eq] at hq; subst hq
        injection h with h; subst h
        exact hx
      · cases h
    · exact findR_ok h

theorem selFr_get {F : List (Nat × V)} : ∀ {l : List Nat} {X : List (Nat × V)}, selFr F l = some X → ∀ t s, aget X t = some s → aget F t = some s
  | [], X, h, t, s, hs => by simp [selFr] at h; subst h; simp [aget] at hs
  | u :: l, X, h, t, s, hs => by
    unfold selFr at h
    split at h
    · rename_i s0 r h1 h2
      injection h with h; subst h
      simp only [aget] at hs
      split at hs
      · rename_i hb
        rw [Nat.beq_eq] at hb; subst hb
        injection hs with hs; subst hs; exact h1
      · exact selFr_get h2 t s hs
    · cases h
theorem selBx_get {F : List (Nat × Box)} : ∀ {l : List (Nat × Nat)} {X : List (Nat × Box)}, selBx F l = some X → ∀ n B, aget X n = some B → ∃ o, aget l n = some o ∧ aget F o = some B
  | [], X, h, t, s, hs => by simp [selBx] at h; subst h; simp [aget] at hs
  | (u, o) :: l, X, h, t, s, hs => by
    unfold selBx at h
    split at h
    · rename_i s0 r h1 h2
      injection h with h; subst h
      simp only [aget] at hs ⊢
      split at hs
      · injection hs with hs; subst hs
        exact ⟨o, rfl, h1⟩
      · exact selBx_get h2 t s hs
    · cases h
theorem aget_unit {l : List (Nat × Nat)} {o : Nat} (h : aget (l.map fun p => (p.2, ())) o = none) : ∀ n, aget l n ≠ some o := by
  induction l with
  | nil => simp [aget]
  | cons p l ih =>
    obtain ⟨x, q⟩ := p
    intro n hn
    simp only [List.map_cons, aget] at h
    split at h
    · cases h
    · rename_i hq
      simp only [aget] at hn
      split at hn
      · injection hn with hn; subst hn; simp at hq
      · exact ih h n hn
theorem okR_ok {nx : Nat} : ∀ {R : List (Nat × Nat)}, okR nx R = true → (∀ n o, aget R n = some o → n < nx) ∧ ∀ n n' o, aget R n = some o → aget R n' = some o → n = n'
  | [], _ => by simp [aget]
  | (x, q) :: l, h => by
    simp only [okR, Bool.and_eq_true, Nat.blt_eq] at h
    obtain ⟨⟨h1, h2⟩, h3⟩ := h
    obtain ⟨g1, g2⟩ := okR_ok h3
    have h2' : aget (l.map fun p => (p.2, ())) q = none := by
      cases he : aget (l.map fun p => (p.2, ())) q with
      | none => rfl
      | some u => rw [he] at h2; cases h2
    have hno := aget_unit h2'
    refine ⟨fun n o hn => ?_, fun n n' o hn hn' => ?_⟩
    · simp only [aget] at hn
      split at hn
      · rename_i hb; rw [Nat.beq_eq] at hb; omega
      · exact g1 n o hn
    · simp only [aget] at hn hn'
      split at hn
      · rename_i hb
        rw [Nat.beq_eq] at hb
        injection hn with hn; subst hn
        split at hn'
        · rename_i hb'
          rw [Nat.beq_eq] at hb'; omega
        · exact absurd hn' (hno n')
      · split at hn'
        · injection hn' with hn'; subst hn'
          exact absurd hn (hno n)
        · exact g2 n n' o hn hn'
theorem ownR_ok {R : List (Nat × Nat)} : ∀ {m : Nat}, ownR R m = true → ∀ k, k < m → aget R k = some k
  | 0, _, k, hk => by omega
  | n + 1, h, k, hk => by
    simp only [ownR, Bool.and_eq_true] at h
    by_cases hkn : k = n
    · subst hkn
      have h1 := h.1
      split at h1
      · rename_i q hq
        rw [Nat.beq_eq] at h1; rw [hq, h1]
      · cases h1
    · exact ownR_ok h.2 k (by omega)

theorem GoTo.sel {todo : List Item} {nx : Nat} {fs : List Nat} {R : List (Nat × Nat)} (he : sel m nx fs R S = some S') (h : GoTo P f m res bx1 todo S') : GoTo P f m res bx1 todo S := by
  unfold Hb.sel at he
  split at he
  · rename_i F X hc hF hX
    injection he with he; subst he
    simp only [Bool.and_eq_true] at hc
    obtain ⟨⟨hok, hown⟩, hmn⟩ := hc
    have hmn := Nat.le_of_ble_eq_true hmn
    obtain ⟨hlt, hinj⟩ := okR_ok hok
    intro E σ a w b cs hb hk hr hf hnx
    let σ1 : Nat → Option Value := fun n => match aget R n with | some k => σ k | none => none
    have hσ1 : ∀ n k, aget R n = some k → σ1 n = σ k := fun n k h => by show (match aget R n with | some k => σ k | none => none) = σ k; rw [h]
    have hget : ∀ n B, aget (mapBx (renV R) X) n = some B → ∃ o B0, aget R n = some o ∧ aget S.bx o = some B0 ∧ B = Box.mapK (renV R) B0 := by
      intro n B hB
      obtain ⟨B0, h1, h2⟩ := mapBx_get _ _ _ _ hB
      obtain ⟨o, h3, h4⟩ := selBx_get hX n B0 h1
      exact ⟨o, B0, h3, h4, h2⟩
    have hbad : ∀ b, ¬ badOf E σ S.bx b → ¬ badOf E σ1 (mapBx (renV R) X) b := by
      intro b hn
      rintro (h0 | ⟨n, B, hg, hkb⟩)
      · exact hn (.inl h0)
      · obtain ⟨o, B0, h1, h2, _⟩ := hget n B hg
        rw [hσ1 n o h1] at hkb
        exact hn (.inr ⟨o, B0, h2, hkb⟩)
    have hmono : ∀ b, b < w.heap.size → ¬ badOf E σ S.bx b → ¬ badOf E σ1 (mapBx (renV R) X) b ∧ w.heap[b]? = w.heap[b]? := fun b _ hn => ⟨hbad b hn, rfl⟩
    have hφ : ∀ s v, V.isK s = true → CV σ w (badOf E σ S.bx) s v → CV σ1 w (badOf E σ1 (mapBx (renV R) X)) (renV R s) v := by
      intro s v hs hv
      cases hv with
      | ptr b hv =>
        simp only [renV]
        split
        · rename_i n hn; exact .ptr b (by rw [hσ1 n _ (findR_ok hn)]; exact hv)
        · exact .junk
      | row b hv =>
        simp only [renV]
        split
        · rename_i n hn; exact .row b (by rw [hσ1 n _ (findR_ok hn)]; exact hv)
        · exact .junk
      | vec v hv =>
        simp only [renV]
        split
        · rename_i n hn; exact .vec v (by rw [hσ1 n _ (findR_ok hn)]; exact hv)
        · exact .junk
      | vptr b n' c hv =>
        simp only [renV]
        split
        · rename_i n hn; exact .vptr b n' c (by rw [hσ1 n _ (findR_ok hn)]; exact hv)
        · exact .junk
      | map r hv =>
        simp only [renV]
        split
        · rename_i n hn; exact .map r (by rw [hσ1 n _ (findR_ok hn)]; exact hv)
        · exact .junk
      | tail b n' c hv hlo =>
        simp only [renV]
        split
        · rename_i n hn; exact .tail b n' c (by rw [hσ1 n _ (findR_ok hn)]; exact hv) hlo
        · exact .junk
      | data hd => cases hd <;> simp [V.isK] at hs
      | junk | agg | tup | fn | elp => simp [V.isK] at hs
    have hrel : Rel E σ1 { nt := S.nt, nx := nx, fr := mapFr (renV R) F, bx := mapBx (renV R) X } a w := by
      refine ⟨⟨fun n B hg => ?_, fun n B b hg hkb => ?_, fun n n' B B' b hg hg' hkb hkb' => ?_, hr.os, hr.tape, hr.output, hr.size, hr.old, hr.hbad⟩, hr.dfs, hr.nt, fun t r ht => ?_⟩
      · obtain ⟨o, B0, h1, h2, rfl⟩ := hget n B hg
        exact (hr.box o B0 h2).mapK (hσ1 n o h1) hmono hφ
      · obtain ⟨o, B0, h1, h2, _⟩ := hget n B hg
        rw [hσ1 n o h1] at hkb
        exact hr.own o B0 b h2 hkb
      · obtain ⟨o, B0, h1, h2, _⟩ := hget n B hg
        obtain ⟨o', B0', h1', h2', _⟩ := hget n' B' hg'
        rw [hσ1 n o h1] at hkb
        rw [hσ1 n' o' h1'] at hkb'
        have := hr.dist o o' B0 B0' b h2 h2' hkb hkb'
        subst this
        exact hinj n n' o h1 h1'
      · obtain ⟨s0, h1, rfl⟩ := mapFr_get _ _ _ _ (show aget (mapFr (renV R) F) t = some r from ht)
        obtain ⟨v, hv, hc⟩ := hr.fr t s0 (selFr_get hF t s0 h1)
        exact ⟨v, hv, hc.mapK hmono hφ⟩
    obtain ⟨e, w', fr, g1, g2, g3, v, σ', g4, g5, g6⟩ := h E σ1 a w b cs hb hk hrel (fun k hk => by
      show (match aget R k with | some k => σ k | none => none) = none
      cases hq : aget R k with
      | none => rfl
      | some o => have := hlt k o hq; exact absurd hk (by show ¬ nx ≤ k % 1000000; omega)) hmn
    exact ⟨e, w', fr, g1, g2, g3, v, σ', g4, fun k hk => by rw [g5 k hk, hσ1 k k (ownR_ok hown k hk)], g6⟩
  · cases he
end
end Go.Hb

/-
  THE SYMBOLIC LAYER, PART S: own boxes taken for data ('frz'), a literal's row taken for one that grows ('vec'); running on ('seg').
-/
namespace Go.Hb
open Go.RowKit

/-- What is done to a state ahead of a region: a box is written no more; a row of a literal is one's own to grow. -/
inductive Pre where
  | frz (k : Nat)
  | vec (k n c : Nat)
  | opt (k : Nat)

def frzV (k : Nat) (fv : V) (fp : Nat → V) (fw : Nat → Nat → Nat → V) : V → V
  | .ptr q off => match Nat.beq q k with | true => fp off | false => .ptr q off
  | .row q off len cap => match Nat.beq q k with | true => fw off len cap | false => .row q off len cap
  | .vec q => match Nat.beq q k with | true => fv | false => .vec q
  | .vptr q sz i off => match Nat.beq q k with | true => .junk | false => .vptr q sz i off
  | .map q => match Nat.beq q k with | true => .junk | false => .map q
  | .tail q sz lo => match Nat.beq q k with | true => .junk | false => .tail q sz lo
  | s => s

def rowSeq (sz : Nat) (l : List V) (off len cap : Nat) : V :=
  match Nat.ble (off + len * sz) l.length && Nat.ble len cap with
  | true => .seq sz len fun i => (l.drop (off + i * sz)).take sz
  | false => .junk

def vecW (k n c off len cap : Nat) : V :=
  match Nat.beq off 0 && Nat.beq len n && Nat.beq cap c with
  | true => .vec k
  | false => .junk

def frzS (P : Program) (S : St) (k : Nat) : Option St := match aget S.bx k with
    | some (.vec _ sz n g) => some { S with fr := mapFr (frzV k (.seq sz n g) (fun _ => .junk) fun _ _ _ => .junk) S.fr, bx := mapBx (frzV k (.seq sz n g) (fun _ => .junk) fun _ _ _ => .junk) (adel S.bx k) }
    | some (.cells ty l) => match szT P ty, allD l with
      | some sz, true => some { S with fr := mapFr (frzV k .junk (fun off => .rfp l off) (rowSeq sz l)) S.fr, bx := mapBx (frzV k .junk (fun off => .rfp l off) (rowSeq sz l)) (adel S.bx k) }
      | _, _ => none
    | _ => none
def pre1 (P : Program) (S : St) : Pre → Option St
  | .frz k => frzS P S k
  | .vec k n c => match aget S.bx k with
    | some (.cells ty l) => match szT P ty with
      | some sz => match Nat.beq (c * sz) l.length && Nat.ble n c && allD l && Nat.ble c 65536 with
        | true => some { S with
            fr := mapFr (frzV k .junk (fun _ => .junk) (vecW k n c)) S.fr
            bx := aput (mapBx (frzV k .junk (fun _ => .junk) (vecW k n c)) (adel S.bx k)) k (.vec ty sz n fun i => (l.drop (i * sz)).take sz) }
        | false => none
      | none => none
    | _ => none
  | .opt k => match frzS P S k with
    | some S' => some S'
    | none => some S

def preOk (m : Nat) : Pre → Bool
  | .frz _ => true
  | .vec k _ _ => Nat.ble m k
  | .opt _ => true

def pres (P : Program) (m : Nat) : List Pre → St → Option St
  | [], S => some S
  | p :: l, S => match preOk m p, pre1 P S p with
    | true, some S' => pres P m l S'
    | _, _ => none

section
variable {P : Program} {f : FuncId} {m : Nat} {res : V} {bx1 : List (Nat × Box)} {E : Env} {σ σ' : Nat → Option Value} {S S' : St} {a : Act} {w : World} {bad bad' : Nat → Prop}

theorem frzV_ok {k : Nat} {fv : V} {fp : Nat → V} {fw : Nat → Nat → Nat → V} (hσ : ∀ q, q ≠ k → σ' q = σ q)
    (h1 : ∀ v, CV σ w bad (.vec k) v → CV σ' w bad' fv v) (h2 : ∀ off v, CV σ w bad (.ptr k off) v → CV σ' w bad' (fp off) v) (h3 : ∀ off len cap v, CV σ w bad (.row k off len cap) v → CV σ' w bad' (fw off len cap) v) :
    ∀ s v, V.isK s = true → CV σ w bad s v → CV σ' w bad' (frzV k fv fp fw s) v := by
  intro s v hs hv
  have hne : ∀ {q}, Nat.beq q k = false → q ≠ k := fun h e => by subst e; simp at h
  cases s <;> simp [V.isK] at hs <;> simp only [frzV] <;> split
  · rename_i hq; rw [Nat.beq_eq] at hq; subst hq; exact h2 _ _ hv
  · rename_i hq
    cases hv with
    | data hd => cases hd
    | ptr b h => exact .ptr b (by rw [hσ _ (hne hq)]; exact h)
  · rename_i hq; rw [Nat.beq_eq] at hq; subst hq; exact h3 _ _ _ _ hv
  · rename_i hq
    cases hv with
    | data hd => cases hd
    | row b h => exact .row b (by rw [hσ _ (hne hq)]; exact h)
  · rename_i hq; rw [Nat.beq_eq] at hq; subst hq; exact h1 _ hv
  · rename_i hq
    cases hv with
    | data hd => cases hd
    | vec v h => exact .vec v (by rw [hσ _ (hne hq)]; exact h)
  · exact .junk
  · rename_i hq
    cases hv with
    | data hd => cases hd
    | vptr b n c h => exact .vptr b n c (by rw [hσ _ (hne hq)]; exact h)
  · exact .junk
  · rename_i hq
    cases hv with
    | data hd => cases hd
    | map r h => exact .map r (by rw [hσ _ (hne hq)]; exact h)
  · exact .junk
  · rename_i hq
    cases hv with
    | data hd => cases hd
    | tail b n c h hlo => exact .tail b n c (by rw [hσ _ (hne hq)]; exact h) hlo

/-- A box less: its key stands for data from now on. -/
theorem Rel.frz {k : Nat} {fv : V} {fp : Nat → V} {fw : Nat → Nat → Nat → V} {B0 : Box} (h : Rel E σ S a w) (h0 : aget S.bx k = some B0)
    (h1 : ∀ bad', (∀ b, ¬ badOf E σ S.bx b → ¬ bad' b) → (∀ b, blkOf (σ k) = some b → ¬ bad' b) → ∀ v, CV σ w (badOf E σ S.bx) (.vec k) v → CV σ w bad' fv v)
    (h2 : ∀ bad', (∀ b, ¬ badOf E σ S.bx b → ¬ bad' b) → (∀ b, blkOf (σ k) = some b → ¬ bad' b) → ∀ off v, CV σ w (badOf E σ S.bx) (.ptr k off) v → CV σ w bad' (fp off) v)
    (h3 : ∀ bad', (∀ b, ¬ badOf E σ S.bx b → ¬ bad' b) → (∀ b, blkOf (σ k) = some b → ¬ bad' b) → ∀ off len cap v, CV σ w (badOf E σ S.bx) (.row k off len cap) v → CV σ w bad' (fw off len cap) v) :
    Rel E σ { S with fr := mapFr (frzV k fv fp fw) S.fr, bx := mapBx (frzV k fv fp fw) (adel S.bx k) } a w := by
  have hget : ∀ q B, aget (mapBx (frzV k fv fp fw) (adel S.bx k)) q = some B → q ≠ k ∧ ∃ B', aget S.bx q = some B' ∧ B = Box.mapK (frzV k fv fp fw) B' := by
    intro q B hg
    obtain ⟨B', hB', hB⟩ := mapBx_get _ _ _ _ hg
    rw [aget_adel] at hB'
    split at hB'
    · cases hB'
    · rename_i hne; exact ⟨hne, B', hB', hB⟩
  have hb1 : ∀ b, ¬ badOf E σ S.bx b → ¬ badOf E σ (mapBx (frzV k fv fp fw) (adel S.bx k)) b := by
    intro b hn
    rintro (hb | ⟨q, B, hg, hqb⟩)
    · exact hn (.inl hb)
    · obtain ⟨_, B', hB', _⟩ := hget q B hg
      exact hn (.inr ⟨q, B', hB', hqb⟩)
  have hb2 : ∀ b, blkOf (σ k) = some b → ¬ badOf E σ (mapBx (frzV k fv fp fw) (adel S.bx k)) b := by
    intro b hkb
    rintro (hb | ⟨q, B, hg, hqb⟩)
    · exact (h.own k B0 b h0 hkb).2.1 hb
    · obtain ⟨hne, B', hB', _⟩ := hget q B hg
      exact hne (h.dist q k B' B0 b hB' h0 hqb hkb)
  have hmono : ∀ b, b < w.heap.size → ¬ badOf E σ S.bx b → ¬ badOf E σ (mapBx (frzV k fv fp fw) (adel S.bx k)) b ∧ w.heap[b]? = w.heap[b]? := fun b _ hn => ⟨hb1 b hn, rfl⟩
  have hφ := frzV_ok (σ' := σ) (fun _ _ => rfl) (h1 _ hb1 hb2) (h2 _ hb1 hb2) (h3 _ hb1 hb2)
  refine ⟨⟨fun q B hg => ?_, fun q B b hg hqb => ?_, fun q q' B B' b hg hg' hqb hqb' => ?_, h.os, h.tape, h.output, h.size, h.old, h.hbad⟩, h.dfs, h.nt, fun t s hs => ?_⟩
  · obtain ⟨_, B', hB', rfl⟩ := hget q B hg
    exact (h.box q B' hB').mapK rfl hmono hφ
  · obtain ⟨_, B', hB', _⟩ := hget q B hg
    exact h.own q B' b hB' hqb
  · obtain ⟨_, C, hC, _⟩ := hget q B hg
    obtain ⟨_, C', hC', _⟩ := hget q' B' hg'
    exact h.dist q q' C C' b hC hC' hqb hqb'
  · obtain ⟨s0, hs0, rfl⟩ := mapFr_get _ _ _ _ (show aget (mapFr (frzV k fv fp fw) S.fr) t = some s from hs)
    obtain ⟨v, hv, hc⟩ := h.fr t s0 hs0
    exact ⟨v, hv, hc.mapK hmono hφ⟩

theorem take_len {l : List V} {off len sz i : Nat} (h : off + len * sz ≤ l.length) (hi : i < len) : ((l.drop (off + i * sz)).take sz).length = sz := by
  have : (i + 1) * sz ≤ len * sz := Nat.mul_le_mul_right sz hi
  rw [Nat.add_mul] at this
  simp; omega

theorem frz_rel {k0 : Nat} (he : pre1 P S (.frz k0) = some S') (h : Rel E σ S a w) : ∃ σ', Rel E σ' S' a w ∧ (∀ k, σ k = none → σ' k = none) ∧ S'.nx = S.nx ∧ ∀ k, (∀ q n c, Pre.frz k0 = .vec q n c → k ≠ q) → σ' k = σ k := by
  simp only [pre1, frzS] at he
  split at he
  · rename_i ty sz n g h0
    injection he with he; subst he
    refine ⟨σ, h.frz h0 (fun bad' hb1 hb2 v hv => ?_) (fun _ _ _ _ _ _ => .junk) (fun _ _ _ _ _ _ _ _ => .junk), fun _ h => h, rfl, fun _ _ => rfl⟩
    cases hv with
    | data hd => cases hd
    | vec v hv =>
      cases h.box k0 _ h0 with
      | vec v' xs hk ho hl hc =>
        rw [hk] at hv
        injection hv with hv; subst hv
        rcases ho.2 with ⟨rfl, rfl⟩ | ⟨b, cap, cur, rfl, _, hg, hnc, _, hcur, htake⟩
        · exact .data (.seq none 0 0 0 (fun _ _ => undef) (by simp) (Nat.le_refl _) (by simp) (by simp) (by simp) (fun _ => rfl))
        · have hlen := ho.1
          refine .data (.seq _ b 0 cap (fun i j => xs.getD (i * sz + j) undef) (fun _ => rfl) hnc hl (fun i j hi hj => ⟨hb2 b (by rw [hk]; rfl), ?_⟩) (fun i j s hi hs => ?_) (fun h => by cases h))
          · have hlt := mul_lt hi hj
            have hx : xs[i * sz + j]? = some (xs.getD (i * sz + j) undef) := by simp [List.getD, List.getElem?_eq_getElem (show i * sz + j < xs.length by omega)]
            rw [Nat.zero_add, cell_of_row w b _ cur ty (0, 0) hg, ← hx, ← htake, List.getElem?_take, if_pos hlt]
            simp
          · obtain ⟨x, h2, h3⟩ := hc i j s hi hs
            have : xs.getD (i * sz + j) undef = x := by simp [List.getD, h2]
            rw [this]
            exact h3.mono fun b _ hn => ⟨hb1 b hn, rfl⟩
  · rename_i ty l h0
    split at he
    · rename_i sz hsz hall
      injection he with he; subst he
      refine ⟨σ, h.frz h0 (fun _ _ _ _ hv => ?_) (fun bad' hb1 hb2 off v hv => ?_) (fun bad' hb1 hb2 off len cap v hv => ?_), fun _ h => h, rfl, fun _ _ => rfl⟩
      · exact .junk
      · cases hv with
        | data hd => cases hd
        | ptr b hv =>
          cases h.box k0 _ h0 with
          | cells b' cs hk hh hs hc =>
            rw [hk] at hv
            injection hv with hv; injection hv with hv; injection hv with hv; injection hv with hv
            subst hv
            have := CD.rfp (w := w) (bad := bad') (l := l) (off := off) b' 0 (fun j => cs.getD j undef) (fun j hj => ⟨hb2 b' (by rw [hk]; rfl), by simp [World.cell?, hh, hs, hj]⟩) fun j s hj => by
              obtain ⟨v, h1, h2, _⟩ := hc j s hj
              have : cs.getD j undef = v := by simp [h1]
              rw [this]
              exact (h2.toD (allD_get hall j s hj)).mono fun b _ hn => ⟨hb1 b hn, rfl⟩
            rw [Nat.zero_add] at this
            exact .data this
      · cases hv with
        | data hd => cases hd
        | row b hv =>
          cases h.box k0 _ h0 with
          | cells b' cs hk hh hs hc =>
            rw [hk] at hv
            injection hv with hv; injection hv with hv; injection hv with hv; injection hv with hv
            subst hv
            unfold rowSeq
            split
            · rename_i hb
              simp only [Bool.and_eq_true] at hb
              have h1 := Nat.le_of_ble_eq_true hb.1
              have h2 := Nat.le_of_ble_eq_true hb.2
              refine .data (.seq _ b' off cap (fun i j => cs.getD (off + i * sz + j) undef) (fun _ => rfl) h2 (fun i hi => take_len h1 hi) (fun i j hi hj => ⟨hb2 b' (by rw [hk]; rfl), ?_⟩) (fun i j s hi hs' => ?_) (fun h => by cases h))
              · have hlt := mul_lt hi hj
                have : off + i * sz + j < cs.size := by omega
                rw [← Nat.add_assoc]; simp [World.cell?, hh, this]
              · have hj : j < sz := by have := (List.getElem?_eq_some_iff.1 hs').1; simp at this; omega
                rw [List.getElem?_take, if_pos hj, List.getElem?_drop] at hs'
                obtain ⟨v, g1, g2, _⟩ := hc _ s hs'
                have : cs.getD (off + i * sz + j) undef = v := by simp [g1]
                rw [this]
                exact (g2.toD (allD_get hall _ s hs')).mono fun b _ hn => ⟨hb1 b hn, rfl⟩
            · exact .junk
    · cases he
  · cases he
theorem pre1_rel {p : Pre} (he : pre1 P S p = some S') (h : Rel E σ S a w) : ∃ σ', Rel E σ' S' a w ∧ (∀ k, σ k = none → σ' k = none) ∧ S'.nx = S.nx ∧ ∀ k, (∀ q n c, p = .vec q n c → k ≠ q) → σ' k = σ k := by
  cases p with
  | frz k => exact frz_rel he h
  | opt k =>
    cases hb : frzS P S k with
    | none => simp only [pre1, hb] at he; injection he with he; subst he; exact ⟨σ, h, fun _ h => h, rfl, fun _ _ => rfl⟩
    | some S1 =>
      simp only [pre1, hb] at he
      injection he with he
      subst he
      obtain ⟨σ', g1, g2, g3, g4⟩ := frz_rel (P := P) (k0 := k) (S' := S1) hb h
      exact ⟨σ', g1, g2, g3, fun k' _ => g4 k' fun _ _ _ e => by cases e⟩
  | vec k n c =>
    simp only [pre1] at he
    split at he
    · rename_i ty l h0
      split at he
      · rename_i sz hsz
        split at he
        · rename_i hb
          simp only [Bool.and_eq_true, Nat.beq_eq] at hb
          obtain ⟨⟨⟨hcl, hnc⟩, hall⟩, hcm⟩ := hb
          have hnc := Nat.le_of_ble_eq_true hnc
          have hcm := Nat.le_of_ble_eq_true hcm
          injection he with he; subst he
          cases h.box k _ h0 with
          | cells b cs hk hh hs hc =>
            let φ := frzV k .junk (fun _ => .junk) (vecW k n c)
            let σ1 : Nat → Option Value := fun q => if q = k then some (.slice (some ⟨b, 0, none⟩) n c) else σ q
            have hσk : σ1 k = some (.slice (some ⟨b, 0, none⟩) n c) := if_pos rfl
            have hσn : ∀ q, q ≠ k → σ1 q = σ q := fun q hq => if_neg hq
            have hblk : ∀ q, blkOf (σ1 q) = blkOf (σ q) := by
              intro q
              by_cases hq : q = k
              · subst hq; rw [hσk, hk]; rfl
              · rw [hσn q hq]
            have hget : ∀ q B, aget (aput (mapBx φ (adel S.bx k)) k (.vec ty sz n fun i => (l.drop (i * sz)).take sz)) q = some B → (q = k ∧ B = .vec ty sz n fun i => (l.drop (i * sz)).take sz) ∨ (q ≠ k ∧ ∃ B', aget S.bx q = some B' ∧ B = Box.mapK φ B') := by
              intro q B hg
              rw [aget_aput] at hg
              split at hg
              · rename_i hq; injection hg with hg; exact .inl ⟨hq, hg.symm⟩
              · rename_i hq
                obtain ⟨B', hB', hB⟩ := mapBx_get _ _ _ _ hg
                rw [aget_adel, if_neg hq] at hB'
                exact .inr ⟨hq, B', hB', hB⟩
            have hbx : ∀ q B, aget (aput (mapBx φ (adel S.bx k)) k (.vec ty sz n fun i => (l.drop (i * sz)).take sz)) q = some B → ∃ B', aget S.bx q = some B' := by
              intro q B hg
              rcases hget q B hg with ⟨rfl, _⟩ | ⟨_, B', hB', _⟩
              · exact ⟨_, h0⟩
              · exact ⟨B', hB'⟩
            have hbad : ∀ b, ¬ badOf E σ S.bx b → ¬ badOf E σ1 (aput (mapBx φ (adel S.bx k)) k (.vec ty sz n fun i => (l.drop (i * sz)).take sz)) b := by
              intro b hn
              rintro (hb | ⟨q, B, hg, hqb⟩)
              · exact hn (.inl hb)
              · obtain ⟨B', hB'⟩ := hbx q B hg
                rw [hblk] at hqb
                exact hn (.inr ⟨q, B', hB', hqb⟩)
            have hmono : ∀ b, b < w.heap.size → ¬ badOf E σ S.bx b → ¬ badOf E σ1 (aput (mapBx φ (adel S.bx k)) k (.vec ty sz n fun i => (l.drop (i * sz)).take sz)) b ∧ w.heap[b]? = w.heap[b]? := fun b _ hn => ⟨hbad b hn, rfl⟩
            have hφ : ∀ s v, V.isK s = true → CV σ w (badOf E σ S.bx) s v → CV σ1 w (badOf E σ1 (aput (mapBx φ (adel S.bx k)) k (.vec ty sz n fun i => (l.drop (i * sz)).take sz))) (φ s) v := by
              refine frzV_ok hσn (fun _ _ => .junk) (fun _ _ _ => .junk) fun off len cap v hv => ?_
              unfold vecW
              split
              · rename_i hb
                simp only [Bool.and_eq_true, Nat.beq_eq] at hb
                obtain ⟨⟨rfl, rfl⟩, rfl⟩ := hb
                cases hv with
                | data hd => cases hd
                | row b' hv =>
                  rw [hk] at hv
                  injection hv with hv; injection hv with hv; injection hv with hv; injection hv with hv
                  subst hv
                  exact .vec _ hσk
              · exact .junk
            have hnl : n * sz ≤ l.length := by rw [← hcl]; exact Nat.mul_le_mul_right sz hnc
            have hmax : c ≤ maxLen := by
              have : 65536 ≤ maxLen := by decide
              omega
            refine ⟨σ1, ⟨⟨fun q B hg => ?_, fun q B b' hg hqb => ?_, fun q q' B B' b' hg hg' hqb hqb' => ?_, h.os, h.tape, h.output, h.size, h.old, h.hbad⟩, h.dfs, h.nt, fun t s hs' => ?_⟩, fun q hq => ?_, rfl, fun q hq => hσn q (hq k n c rfl)⟩
            · rcases hget q B hg with ⟨rfl, rfl⟩ | ⟨hq, B', hB', rfl⟩
              · refine .vec _ (cs.toList.take (n * sz)) hσk ⟨by simp; omega, .inr ⟨b, c, cs, rfl, Nat.zero_le _, hh, hnc, hmax, by omega, rfl⟩⟩ (fun i hi => ?_) fun i j s hi hs' => ?_
                · have := take_len (l := l) (off := 0) (sz := sz) (len := n) (by omega) hi
                  simpa using this
                · have hj : j < sz := by have := (List.getElem?_eq_some_iff.1 hs').1; simp at this; omega
                  have hlt := mul_lt hi hj
                  rw [List.getElem?_take, if_pos hj, List.getElem?_drop] at hs'
                  obtain ⟨v, g1, g2, _⟩ := hc _ s hs'
                  refine ⟨v, by rw [List.getElem?_take, if_pos hlt]; simpa using g1, ?_⟩
                  exact (g2.toD (allD_get hall _ s hs')).mono hmono
              · exact (h.box q B' hB').mapK (hσn q hq) hmono hφ
            · obtain ⟨B', hB'⟩ := hbx q B hg
              rw [hblk] at hqb
              exact h.own q B' b' hB' hqb
            · obtain ⟨C, hC⟩ := hbx q B hg
              obtain ⟨C', hC'⟩ := hbx q' B' hg'
              rw [hblk] at hqb hqb'
              exact h.dist q q' C C' b' hC hC' hqb hqb'
            · obtain ⟨s0, hs0, rfl⟩ := mapFr_get _ _ _ _ (show aget (mapFr φ S.fr) t = some s from hs')
              obtain ⟨v, hv, hc'⟩ := h.fr t s0 hs0
              exact ⟨v, hv, hc'.mapK hmono hφ⟩
            · by_cases hqk : q = k
              · subst hqk; rw [hk] at hq; cases hq
              · rw [hσn q hqk]; exact hq
        · cases he
      · cases he
    · cases he

theorem GoTo.pres {todo : List Item} : ∀ {l : List Pre} {S S' : St}, pres P m l S = some S' → GoTo P f m res bx1 todo S' → GoTo P f m res bx1 todo S
  | [], S, S', he, h => by simp [Hb.pres] at he; subst he; exact h
  | p :: l, S, S', he, h => by
    unfold Hb.pres at he
    split at he
    · rename_i S1 hp h1
      have h2 := GoTo.pres he h
      intro E σ a w b cs hb hk hr hf hnx
      obtain ⟨σ1, g1, g2, g3, g4⟩ := pre1_rel h1 hr
      obtain ⟨e, w', fr, k1, k2, k3, v, σ', k4, k5, k6⟩ := h2 E σ1 a w b cs hb hk g1 (fun k hk => g2 k (hf k (by omega))) (by omega)
      exact ⟨e, w', fr, k1, k2, k3, v, σ', k4, fun k hk => by
        rw [k5 k hk]
        refine g4 k fun q n c e => ?_
        subst e
        have := Nat.le_of_ble_eq_true (show Nat.ble m q = true from hp)
        omega, k6⟩
    · cases he
end
end Go.Hb
