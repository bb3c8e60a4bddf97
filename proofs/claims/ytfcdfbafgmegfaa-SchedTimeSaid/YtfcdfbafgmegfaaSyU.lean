/-
  THE SYMBOLIC LAYER, PART U: '==' on structs and arrays of plain cells ('eqV').
-/
import Derived.Test.YtfcdfbafgmegfaaSyT
import Derived.ChangeKeysEq
import Derived.Laws.StructEq
namespace Go.Hb
open Go.RowKit

mutual
/-- Two values of a type: are they one? -/
def eqV (P : Program) : Nat → TypeId → V → V → Option Bool
  | 0, _, _, _ => none
  | d + 1, t, s, r => match P.underlying t with
    | some (.int _) => match s, r with
      | .int k x, .int k' y => match kEq k k' with
        | true => some (x == y)
        | false => none
      | _, _ => none
    | some .bool => match s.asB, r.asB with
      | some x, some y => some (x == y)
      | _, _ => none
    | some .string => match s, r with
      | .str x, .str y => some (strEq x y)
      | _, _ => none
    | some (.struct _) => match s, r, P.stoodInHeld t with
      | .agg l, .agg m, false => eqFs P d (P.fieldsOf t).toList l m
      | _, _, _ => none
    | some (.array n e) => match s, r, P.info? e with
      | .agg l, .agg m, some _ => eqIs P d e (P.cellsOf e) n 0 l m
      | _, _, _ => none
    | _ => none
def eqFs (P : Program) : Nat → List Field → List V → List V → Option Bool
  | 0, _, _, _ => none
  | _ + 1, [], _, _ => some true
  | d + 1, f :: fs, l, m => match f.name == "_", loadL P f.type l f.offset, loadL P f.type m f.offset with
    | false, some s, some r => match eqV P d f.type s r, eqFs P d fs l m with
      | some a, some b => some (a && b)
      | _, _ => none
    | _, _, _ => none
def eqIs (P : Program) : Nat → TypeId → Nat → Nat → Nat → List V → List V → Option Bool
  | 0, _, _, _, _, _, _ => none
  | _ + 1, _, _, 0, _, _, _ => some true
  | d + 1, e, sz, n + 1, i, l, m => match loadL P e l (i * sz), loadL P e m (i * sz) with
    | some s, some r => match eqV P d e s r, eqIs P d e sz n (i + 1) l m with
      | some a, some b => some (a && b)
      | _, _ => none
    | _, _ => none
end

section
variable {P : Program} {σ : Nat → Option Value} {w : World} {bad : Nat → Prop}

theorem loadA_of {t : TypeId} {l : List V} {off : Nat} {r : V} (h : loadL P t l off = some r) : loadA P t l off .no = some (r, []) := by
  unfold loadA; rw [h]

theorem asB_val {s : V} {b : Bool} {v : Value} (h : s.asB = some b) (hv : CV σ w bad s v) : v = .bool b := by
  cases s <;> simp [V.asB] at h <;> subst h <;> cases hv with
  | data hd => cases hd; rfl

theorem eqV_run : ∀ (d : Nat),
    (∀ (t : TypeId) (s r : V) (b : Bool), eqV P d t s r = some b → ∀ (D : Nat) (x y : Value), d ≤ D → CV σ w bad s x → CV σ w bad r y → (Op.equalIn D t x y).run P w = .ok b w) ∧
    (∀ (fs : List Field) (l m : List V) (b : Bool), eqFs P d fs l m = some b → ∀ (D : Nat) (xs ys : Array Value), d ≤ D → CV σ w bad (.agg l) (.agg xs) → CV σ w bad (.agg m) (.agg ys) → (Op.eqFields D xs ys fs).run P w = .ok b w) ∧
    (∀ (e : TypeId) (sz n i : Nat) (l m : List V) (b : Bool), eqIs P d e sz n i l m = some b → ∀ (D : Nat) (xs ys : Array Value), d ≤ D → CV σ w bad (.agg l) (.agg xs) → CV σ w bad (.agg m) (.agg ys) → (Op.eqItems D e sz xs ys (List.range' i n)).run P w = .ok b w)
  | 0 => by
    refine ⟨fun t s r b h => by simp [eqV] at h, fun fs l m b h => by simp [eqFs] at h, fun e sz n i l m b h => by simp [eqIs] at h⟩
  | d + 1 => by
    obtain ⟨ih1, ih2, ih3⟩ := eqV_run d
    refine ⟨fun t s r b h D x y hD hx hy => ?_, fun fs l m b h D xs ys hD hx hy => ?_, fun e sz n i l m b h D xs ys hD hx hy => ?_⟩
    · obtain ⟨D, rfl⟩ : ∃ D', D = D' + 1 := ⟨D - 1, by omega⟩
      unfold eqV at h
      split at h
      · rename_i k0 hu
        split at h
        · rename_i k x' k' y'
          split at h
          · rename_i hk
            obtain rfl := kEq_ok hk
            injection h with h; subst h
            cases hx with
            | data hd => cases hd; cases hy with
              | data hd => cases hd; exact run_equalIn_int w D t _ _ _ _ hu
          · cases h
        · cases h
      · rename_i hu
        split at h
        · rename_i a c ha hc
          injection h with h; subst h
          rw [asB_val ha hx, asB_val hc hy]
          exact run_equalIn_bool' w D t _ _ hu
        · cases h
      · rename_i hu
        split at h
        · injection h with h; subst h
          cases hx with
          | data hd => cases hd; cases hy with
            | data hd => cases hd; exact run_equalIn_string w D t _ _ hu
        · cases h
      · rename_i fs hu
        split at h
        · rename_i l m hst
          cases hx with
          | data hd => cases hd
          | agg xs u1 a1 a2 a3 a4 => cases hy with
            | data hd => cases hd
            | agg ys u2 b1 b2 b3 b4 =>
              rw [run_equalIn_struct w D t xs ys (by simp [Program.fieldsOf, hu]) hst]
              exact ih2 _ _ _ _ h D xs ys (by omega) (.agg xs u1 a1 a2 a3 a4) (.agg ys u2 b1 b2 b3 b4)
        · cases h
      · rename_i n e hu
        split at h
        · rename_i l m i hi
          cases hx with
          | data hd => cases hd
          | agg xs u1 a1 a2 a3 a4 => cases hy with
            | data hd => cases hd
            | agg ys u2 b1 b2 b3 b4 =>
              rw [run_equalIn_array w D xs ys hu hi, List.range_eq_range']
              exact ih3 _ _ _ _ _ _ _ h D xs ys (by omega) (.agg xs u1 a1 a2 a3 a4) (.agg ys u2 b1 b2 b3 b4)
        · cases h
      · cases h
    · cases fs with
      | nil => simp only [eqFs, Option.some.injEq] at h; subst h; simp [Op.eqFields]
      | cons f fs =>
        unfold eqFs at h
        split at h
        · rename_i s r hn hs hr
          split at h
          · rename_i b1 b2 h1 h2
            injection h with h; subst h
            obtain ⟨_, e1, x, hx1, hx2⟩ := run_part (loadA_of hs) trivial hx
            injection e1 with e1; subst e1
            obtain ⟨_, e2, y, hy1, hy2⟩ := run_part (loadA_of hr) trivial hy
            injection e2 with e2; subst e2
            have hr1 := ih1 _ _ _ _ h1 D x y (by omega) hx2 hy2
            have hr2 := ih2 _ _ _ _ h2 D _ _ (by omega) hx hy
            have hne : f.name ≠ "_" := by simpa using hn
            simp only [Op.eqFields, if_pos hne, Sem.run_bind, hx1, hy1, hr1, Result.andThen_ok]
            cases b1
            · simp
            · simpa using hr2
          · cases h
        · cases h
    · cases n with
      | zero => simp only [eqIs, Option.some.injEq] at h; subst h; simp [Op.eqItems]
      | succ n =>
        unfold eqIs at h
        split at h
        · rename_i s r hs hr
          split at h
          · rename_i b1 b2 h1 h2
            injection h with h; subst h
            obtain ⟨_, e1, x, hx1, hx2⟩ := run_part (loadA_of hs) trivial hx
            injection e1 with e1; subst e1
            obtain ⟨_, e2, y, hy1, hy2⟩ := run_part (loadA_of hr) trivial hy
            injection e2 with e2; subst e2
            have hr1 := ih1 _ _ _ _ h1 D x y (by omega) hx2 hy2
            have hr2 := ih3 _ _ _ _ _ _ _ h2 D _ _ (by omega) hx hy
            simp only [List.range'_succ, Op.eqItems, Sem.run_bind, hx1, hy1, hr1, Result.andThen_ok]
            cases b1
            · simp
            · simpa using hr2
          · cases h
        · cases h

theorem eqRun_of {t : TypeId} {l m : List V} {b : Bool} (hg : P.eqGuardType P.depth t = false) (h : eqV P 1000 t (.agg l) (.agg m) = some b) : EqRun P t l m b := by
  intro σ w bad x y p q hx hy
  have hr := (eqV_run (P := P) (σ := σ) (w := w) (bad := bad) 1000).1 _ _ _ _ h 10000 x y (by omega) hx hy
  cases hx with
  | data hd => cases hd
  | agg xs u1 a1 a2 a3 a4 => cases hy with
    | data hd => cases hd
    | agg ys u2 b1 b2 b3 b4 => exact ⟨run_eqGuard_agg w _ t p q xs ys hg, run_eqGuard_agg w _ t p q xs ys hg, hr⟩
end
end Go.Hb
