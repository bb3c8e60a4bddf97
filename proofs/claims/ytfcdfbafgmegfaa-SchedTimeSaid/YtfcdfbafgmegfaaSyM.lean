/-
  THE SYMBOLIC LAYER, PART M: the operations of a region in the order of the text; and of a region that draws its order, in whatever order its edges allow.
-/
import Derived.Test.YtfcdfbafgmegfaaSyL
namespace Go.Hb
open Go.RowKit

def ansOf (sc : List (Nat × An)) (i : Nat) : An :=
  match aget sc i with
  | some a => a
  | none => .no

def exGuard (ops : List Oper) (fr : List (Nat × V)) : Option (Nat × Bool) → Option Bool
  | none => some true
  | some (j, want) => match ops[j]? with
    | some o => match o.dst with
      | some t => match aget fr t with
        | some (.tt b) => some (match b, want with
          | true, true => true
          | false, false => true
          | _, _ => false)
        | some (.tup []) => some false
        | _ => none
      | none => none
    | none => none

def dstOk (nt : Nat) : Option Nat → Bool
  | none => true
  | some t => Nat.blt t nt

/-- One operation with its guard: its effect. -/
def execG (P : Program) (key : Nat) (ans : An) (ops : List Oper) (o : Oper) (S : St) : Option (Eff × List Prop) :=
  match exGuard ops S.fr o.guard, dstOk S.nt o.dst with
  | some true, true => exec1 P key ans o.op S
  | some false, true => some (.val (.tup []), [])
  | _, _ => none

def execOps (P : Program) (base : Nat) (ops : List Oper) (sc : List (Nat × An)) : Nat → List Oper → St → Option (St × List Prop)
  | _, [], S => some (S, [])
  | i, o :: rest, S => match execG P (base + i) (ansOf sc i) ops o S with
    | some (e, obs) => match execOps P base ops sc (i + 1) rest (e.app S (base + i) o.dst) with
      | some (S', obs') => some (S', obs ++ obs')
      | none => none
    | none => none

section
variable {P : Program} {E : Env} {σ σ' : Nat → Option Value} {S V0 : St} {a : Act} {w w' : World} {bad : Nat → Prop} {key : Nat} {dst : Option Tmp} {ops : Array Oper}

theorem dstOk_ok {nt : Nat} {d : Option Nat} (h : dstOk nt d = true) : ∀ t, d = some t → t < nt := by
  rintro t rfl
  simpa [dstOk] using h

theorem exGuard_ok {g : Option (Nat × Bool)} {b : Bool} (h : exGuard ops.toList V0.fr g = some b) (hs : Sub V0 S) (hr : Rel E σ S a w) {o : Oper} (ho : o.guard = g) : Region.wanted o (yielded ops a.tmps) = b := by
  unfold exGuard at h
  split at h
  · injection h with h; subst h; simp [Region.wanted, ho]
  · rename_i j want
    split at h
    · rename_i oj hj
      split at h
      · rename_i t ht
        split at h
        · rename_i b' hb
          injection h with h
          obtain ⟨v, hv, hc⟩ := hr.fr t _ (hs.fr _ _ hb)
          have hv' : v = .bool b' := by cases hc with
            | data hd => cases hd; rfl
          subst hv'
          have hoj : ops[j]? = some oj := by simpa using hj
          have hy : yielded ops a.tmps j = some b' := by simp [yielded, hoj, ht, hv]
          unfold Region.wanted
          rw [ho]
          simp only [hy]
          subst h
          cases b' <;> cases want <;> rfl
        · rename_i hb
          injection h with h
          obtain ⟨v, hv, hc⟩ := hr.fr t _ (hs.fr _ _ hb)
          have hv' : v = .tuple #[] := by cases hc with
            | data hd => cases hd
            | tup vs u hs hv hd =>
              obtain rfl : vs = #[] := by simpa using hs
              rfl
          subst hv'
          have hoj : ops[j]? = some oj := by simpa using hj
          have hy : yielded ops a.tmps j = none := by simp [yielded, hoj, ht, hv]
          unfold Region.wanted
          rw [ho]
          simp only [hy]
          subst h
          rfl
        · cases h
      · cases h
    · cases h

/-- One operation with its guard, in the model. -/
theorem wpOp_ok {i : Nat} {o : Oper} {ans : An} {e : Eff} {obs : List Prop} {K : Act → World → Prop} {Q : Exit → Act → World → Prop} (hi : ops[i]? = some o) (he : execG P key ans ops.toList o V0 = some (e, obs)) (ho : AllP obs) (hs : Sub V0 S) (h : Rel E σ S a w)
    (hf : σ key = none) (hK : Onward E σ (e.app S key o.dst) key K) : wpOp P ops Q i K a w := by
  unfold execG at he
  unfold wpOp
  rw [hi]
  simp only []
  split at he
  · rename_i hg hd
    rw [if_pos (exGuard_ok hg hs h rfl)]
    exact .inl (exec1_ok he ho hs h (by rw [← hs.nt]; exact dstOk_ok hd) hf hK)
  · rename_i hg hd
    have := exGuard_ok hg hs h (o := o) rfl
    rw [if_neg (by rw [this]; simp)]
    injection he with he; injection he with h1 h2; subst h1
    exact hK σ _ _ (h.slot (s := .tup []) (by rw [← hs.nt]; exact dstOk_ok hd) (.tup #[] (fun _ => undef) rfl (by simp) (by simp))) (fun _ _ => rfl)
  · cases he

/-- What holds behind a region. -/
def After (E : Env) (σ0 : Nat → Option Value) (base n : Nat) (S' : St) (e : Exit) (a' : Act) (w' : World) : Prop :=
  e = .normal ∧ ∃ σ', Rel E σ' S' a' w' ∧ (∀ k, k < base → σ' k = σ0 k) ∧ ∀ k, base + n ≤ k → σ' k = none

theorem execOps_ok {base : Nat} {sc : List (Nat × An)} {σ0 : Nat → Option Value} : ∀ {rest : List Oper} {i : Nat} {S S' : St} {obs : List Prop} {σ : Nat → Option Value} {a : Act} {w : World},
    execOps P base ops.toList sc i rest S = some (S', obs) → AllP obs → ops.toList.drop i = rest → i ≤ ops.size → Rel E σ S a w → (∀ k, k < base → σ k = σ0 k) → (∀ k, base + i ≤ k → σ k = none) →
    wpOps P ops (After E σ0 base ops.size S') (List.range' i rest.length) a w
  | [], i, S, S', obs, σ, a, w, he, ho, hd, hin, h, hb, hf => by
    simp only [execOps, Option.some.injEq, Prod.mk.injEq] at he
    obtain ⟨rfl, _⟩ := he
    have hi : ops.size ≤ i := by simpa using hd
    exact ⟨rfl, σ, h, hb, fun k hk => hf k (by omega)⟩
  | o :: rest, i, S, S', obs, σ, a, w, he, ho, hd, hin, h, hb, hf => by
    unfold execOps at he
    split at he
    · rename_i e obs1 he1
      split at he
      · rename_i S2 obs2 he2
        injection he with he; injection he with h1 h2; subst h1 h2
        obtain ⟨ho1, ho2⟩ := allP_append.1 ho
        have hi : ops[i]? = some o := by
          have := congrArg (fun l => l[0]?) hd
          simpa using this
        have hlt : i < ops.size := (Array.getElem?_eq_some_iff.1 hi).1
        simp only [List.length_cons, List.range'_succ]
        rw [wpOps_cons]
        refine wpOp_ok hi he1 ho1 (Sub.refl S) h (hf _ (Nat.le_refl _)) fun σ' a' w' hr hk => ?_
        refine execOps_ok he2 ho2 ?_ (by omega) hr (fun k hkb => ?_) fun k hkb => ?_
        · have := congrArg (List.drop 1) hd
          simpa [List.drop_drop] using this
        · rw [hk k (by omega)]; exact hb k hkb
        · rw [hk k (by omega)]; exact hf k (by omega)
      · cases he
    · cases he
end
end Go.Hb
