/-
  THE SYMBOLIC LAYER, PART O: the theorem on a region that draws its order.
-/
import Derived.Test.YtfcdfbafgmegfaaSyN
namespace Go.Hb
open Go.RowKit
section
variable {P : Program} {E : Env} {σ σ' : Nat → Option Value} {S : St} {a : Act} {w w' : World} {ops : Array Oper}

/-- What 'drawn' has seen of one operation. -/
structure Seen (P : Program) (base : Nat) (ops : Array Oper) (sc : List (Nat × An)) (ds : List Nat) (W : List (Option Nat × List Nat)) (i : Nat) (x : D1) (T : St) : Prop where
  is : ∃ o obs, ops[i]? = some o ∧ x.dst = o.dst ∧ x.key = base + i ∧ execG P (base + i) (ansOf sc i) ops.toList o { T with fr := keepS ds W i T.fr, bx := keepB ds W i T.bx } = some (x.eff, obs) ∧ AllP obs
  sl : ∀ t, x.dst = some t → stSlot ds i t 0 W = true
  bo : ∀ k ∈ wBoxes x.key x.eff, stBox ds i k 0 W = true
  wr : W.getD i (none, []) = (x.dst, wBoxes x.key x.eff)

theorem drawn_spec {base : Nat} {sc : List (Nat × An)} {ds : List Nat} {W : List (Option Nat × List Nat)} : ∀ {rest : List Oper} {i : Nat} {T T' : St} {L : List D1} {obs : List Prop},
    drawn P base ops.toList sc ds W i rest T = some (L, T', obs) → AllP obs → ops.toList.drop i = rest →
    L.length = rest.length ∧ T' = foldE (fun _ => true) i L T ∧ ∀ (m : Nat) x, L[m]? = some x → Seen P base ops sc ds W (i + m) x (foldE (fun j => decide (j < i + m)) i L T)
  | [], i, T, T', L, obs, h, ho, hd => by
    simp only [drawn, Option.some.injEq, Prod.mk.injEq] at h
    obtain ⟨rfl, rfl, _⟩ := h
    exact ⟨rfl, rfl, by simp⟩
  | o :: rest, i, T, T', L, obs, h, ho, hd => by
    unfold drawn at h
    split at h
    · rename_i e obs1 he
      split at h
      · rename_i hc
        simp only [Bool.and_eq_true] at hc
        obtain ⟨⟨⟨hc1, hc2⟩, hc3⟩, hc4⟩ := hc
        split at h
        · rename_i L1 T1 obs2 hr
          injection h with h; injection h with h1 h; injection h with h2 h3
          subst h1 h2 h3
          obtain ⟨ho1, ho2⟩ := allP_append.1 ho
          have hi : ops[i]? = some o := by
            have := congrArg (fun l => l[0]?) hd
            simpa using this
          obtain ⟨g1, g2, g3⟩ := drawn_spec hr ho2 (by have := congrArg (List.drop 1) hd; simpa [List.drop_drop] using this)
          refine ⟨by simp [g1], by simp [foldE, g2], fun m x hx => ?_⟩
          cases m with
          | zero =>
            simp at hx; subst hx
            have hnone : ∀ (L : List D1) (j : Nat) (S : St), i < j → foldE (fun q => decide (q < i + 0)) j L S = S := by
              intro L; induction L with
              | nil => intros; rfl
              | cons x L ih =>
                intro j S hj
                simp only [foldE]
                rw [show decide (j < i + 0) = false from by simp; omega]
                exact ih (j + 1) S (by omega)
            have hT : foldE (fun j => decide (j < i + 0)) i ({ dst := o.dst, key := base + i, eff := e } :: L1) T = T := by
              simp only [foldE]
              rw [show decide (i < i + 0) = false from by simp]
              exact hnone L1 (i + 1) T (by omega)
            rw [hT]
            refine ⟨⟨o, obs1, by simpa using hi, rfl, by simp, by simpa using he, ho1⟩, fun t ht => ?_, fun k hk => ?_, ?_⟩
            · simp only at ht
              rw [ht] at hc1
              exact hc1
            · exact allB_get hc2 k hk
            · have e1 := eqL_eq hc3
              have e2 := eqO_eq hc4
              simp only [Nat.add_zero]
              rw [e1, e2]
          | succ m =>
            have := g3 m x (by simpa using hx)
            rw [show i + (m + 1) = i + 1 + m from by omega]
            have hf : foldE (fun j => decide (j < i + 1 + m)) i ({ dst := o.dst, key := base + i, eff := e } :: L1) T = foldE (fun j => decide (j < i + 1 + m)) (i + 1) L1 (e.app T (base + i) o.dst) := by
              simp only [foldE]
              rw [show decide (i < i + 1 + m) = true from by simp; omega]
              rfl
            rw [hf]
            exact this
        · cases h
      · cases h
    · cases h

theorem getD_some {W : List (Option Nat × List Nat)} {j : Nat} {d : Option Nat} {ks : List Nat} (h : W.getD j (none, []) = (d, ks)) (hne : d ≠ none ∨ ks ≠ []) : W[j]? = some (d, ks) := by
  cases hw : W[j]? with
  | none => simp [List.getD, hw] at h; obtain ⟨rfl, rfl⟩ := h; simp at hne
  | some p => simp [List.getD, hw] at h; rw [h]

theorem countP_drop {E : Nat → Bool} {i : Nat} (hi : E i = false) : ∀ (l : List Nat), i ∈ l → l.countP (fun j => !(E j || j == i)) + 1 ≤ l.countP (fun j => !E j)
  | [], h => by simp at h
  | x :: l, h => by
    have hle : ∀ l : List Nat, l.countP (fun j => !(E j || j == i)) ≤ l.countP (fun j => !E j) := fun l => List.countP_mono_left (by intro y _ hy; simp at hy ⊢; exact hy.1)
    simp only [List.countP_cons]
    by_cases hx : x = i
    · subst hx
      have := hle l
      simp [hi]
      simpa using this
    · have hm : i ∈ l := by rcases List.mem_cons.1 h with h | h; exact absurd h.symm hx; exact h
      have ih := countP_drop hi l hm
      have hb : (x == i) = false := by simpa using hx
      simp only [hb, Bool.or_false]
      omega

theorem wpAny_drawn {base : Nat} {sc : List (Nat × An)} {W : List (Option Nat × List Nat)} {L : List D1} {S0 T : St} {σ0 : Nat → Option Value} (hback : backB 0 ops.toList = true)
    (hL : L.length = ops.size) (hT : T = foldE (fun _ => true) 0 L S0) (hseen : ∀ (m : Nat) x, L[m]? = some x → Seen P base ops sc (depsAll ops.toList []) W m x (foldE (fun j => decide (j < m)) 0 L S0)) :
    ∀ (fuel : Nat) (listed : Array Bool) (σ : Nat → Option Value) (S : St) (a : Act) (w : World), listed.size = ops.size → (List.range ops.size).countP (fun j => !listed.getD j false) ≤ fuel → Closed ops (fun j => listed.getD j false) →
      Rel E σ S a w → Sub (foldE (fun j => listed.getD j false) 0 L S0) S → (∀ k, k < base → σ k = σ0 k) → (∀ j, j < ops.size → listed.getD j false = false → σ (base + j) = none) → (∀ k, base + ops.size ≤ k → σ k = none) →
      wpAny P .any ops (After E σ0 base ops.size T) fuel listed a w := by
  have fin : ∀ (listed : Array Bool) (σ : Nat → Option Value) (S : St) (a : Act) (w : World), (∀ j, j < ops.size → listed.getD j false = true) → Rel E σ S a w → Sub (foldE (fun j => listed.getD j false) 0 L S0) S → (∀ k, k < base → σ k = σ0 k) → (∀ k, base + ops.size ≤ k → σ k = none) →
      After E σ0 base ops.size T .normal a w := by
    intro listed σ S a w hall hr hs hb hf
    refine ⟨rfl, σ, hr.weaken ?_ (fun t s ht => ?_) (fun k B hk => ?_), hb, hf⟩
    · rw [← hs.nt, hT, foldE_nt, foldE_nt]
    · refine hs.fr t s ?_
      rw [← ht, hT]
      exact foldE_fr _ _ t L 0 S0 S0 (fun j x hx _ => by rw [Nat.zero_add]; exact hall j (by rw [← hL]; exact (List.getElem?_eq_some_iff.1 hx).1)) rfl
    · refine hs.bx k B ?_
      rw [← hk, hT]
      exact foldE_bx _ _ k L 0 S0 S0 (fun j x hx _ => by rw [Nat.zero_add]; exact hall j (by rw [← hL]; exact (List.getElem?_eq_some_iff.1 hx).1)) rfl
  -- where nothing is ready, all has been done
  have done : ∀ (listed : Array Bool), listed.size = ops.size → Region.ready .any ops listed = [] → ∀ j, j < ops.size → listed.getD j false = true := by
    intro listed hsz hr j
    induction j using Nat.strongRecOn with
    | _ j ih =>
      intro hj
      cases hlj : listed.getD j false with
      | true => rfl
      | false =>
        have hlt : listed.getD j true = false := by
          have : j < listed.size := by omega
          simp [this] at hlj ⊢; exact hlj
        have hm : j ∈ Region.ready .any ops listed := by
          rw [mem_ready]
          refine ⟨hlt, _, Array.getElem?_eq_getElem hj, fun e he hbe => ?_⟩
          have := backB_get hback j _ (by simp [hj]) e he hbe
          exact ih e.on (by omega) (by omega)
        rw [hr] at hm; cases hm
  intro fuel
  induction fuel with
  | zero =>
    intro listed σ S a w hsz hcnt hcl hr hs hb hf0 hf
    have hall : ∀ j, j < ops.size → listed.getD j false = true := by
      intro j hj
      have h0 : (List.range ops.size).countP (fun j => !listed.getD j false) = 0 := by omega
      rw [List.countP_eq_zero] at h0
      have := h0 j (by simpa using hj)
      simpa using this
    refine ⟨?_, fin listed σ S a w hall hr hs hb hf⟩
    cases hrd : Region.ready .any ops listed with
    | nil => rfl
    | cons i l =>
      have hm : i ∈ Region.ready .any ops listed := by rw [hrd]; simp
      rw [mem_ready] at hm
      obtain ⟨h0, o, ho, _⟩ := hm
      have hi := (Array.getElem?_eq_some_iff.1 ho).1
      have h1 := hall i hi
      have : i < listed.size := by omega
      simp [this] at h0 h1
      rw [h0] at h1; cases h1
  | succ fuel ih =>
    intro listed σ S a w hsz hcnt hcl hr hs hb hf0 hf
    refine ⟨fun hrd => fin listed σ S a w (done listed hsz hrd) hr hs hb hf, fun i hi => ?_⟩
    rw [mem_ready] at hi
    obtain ⟨h0, o, ho, hdeps⟩ := hi
    have hilt := (Array.getElem?_eq_some_iff.1 ho).1
    have hils : i < listed.size := by omega
    have hif : listed.getD i false = false := by simp [hils] at h0 ⊢; exact h0
    have hx : L[i]? = some (L[i]'(by omega)) := List.getElem?_eq_getElem (by omega)
    generalize hxx : L[i]'(by omega) = x at hx
    have hsn := hseen i x hx
    obtain ⟨o', obs, ho', hxd, hxk, hex, hobs⟩ := hsn.is
    rw [ho] at ho'
    injection ho' with ho'; subst ho'
    -- who writes what i looks at stands in order to it
    have order : ∀ j, j < ops.size → InOrder (depsAll ops.toList []) i j → listed.getD j false = decide (j < i) := fun j hj h => inOrder_done hback (E := fun j => listed.getD j false) hcl ho hdeps hif hj h
    have wS : ∀ (t j : Nat) y, stSlot (depsAll ops.toList []) i t 0 W = true → L[j]? = some y → y.dst = some t → listed.getD j false = decide (j < i) := by
      intro t j y hst hy hd
      have hj : j < ops.size := by rw [← hL]; exact (List.getElem?_eq_some_iff.1 hy).1
      have hw := (hseen j y hy).wr
      have := stSlot_get hst j (wBoxes y.key y.eff) (getD_some (by rw [hw, hd]) (.inl (by simp)))
      rw [Nat.zero_add] at this
      exact order j hj this
    have wB : ∀ (k j : Nat) y, stBox (depsAll ops.toList []) i k 0 W = true → L[j]? = some y → k ∈ wBoxes y.key y.eff → listed.getD j false = decide (j < i) := by
      intro k j y hst hy hk
      have hj : j < ops.size := by rw [← hL]; exact (List.getElem?_eq_some_iff.1 hy).1
      have hw := (hseen j y hy).wr
      have hne : wBoxes y.key y.eff ≠ [] := by intro e; rw [e] at hk; simp at hk
      have := stBox_get hst j y.dst (wBoxes y.key y.eff) (getD_some hw (.inr hne)) hk
      rw [Nat.zero_add] at this
      exact order j hj this
    -- what i looks at is there
    have hsub : Sub { foldE (fun j => decide (j < i)) 0 L S0 with fr := keepS (depsAll ops.toList []) W i (foldE (fun j => decide (j < i)) 0 L S0).fr, bx := keepB (depsAll ops.toList []) W i (foldE (fun j => decide (j < i)) 0 L S0).bx } S := by
      refine ⟨?_, fun t s ht => ?_, fun k B hk => ?_⟩
      · rw [← hs.nt, foldE_nt]; exact (foldE_nt _ _ _ _).symm
      · obtain ⟨h1, h2⟩ := keepS_get ht
        refine hs.fr t s ?_
        rw [← h1]
        exact foldE_fr _ _ t L 0 S0 S0 (fun j y hy hd => by rw [Nat.zero_add]; exact wS t j y h2 hy hd) rfl
      · obtain ⟨h1, h2⟩ := keepB_get hk
        refine hs.bx k B ?_
        rw [← h1]
        exact foldE_bx _ _ k L 0 S0 S0 (fun j y hy hd => by rw [Nat.zero_add]; exact wB k j y h2 hy hd) rfl
    refine wpOp_ok ho hex hobs hsub hr (hf0 i hilt hif) fun σ' a' w' hr' hk => ?_
    have hE' : (fun j => (listed.setIfInBounds i true).getD j false) = fun j => listed.getD j false || j == i := by
      funext j
      by_cases hji : j = i
      · subst hji; simp [hils]
      · have hb' : (j == i) = false := by simpa using hji
        rw [getD_set_ne false (fun e => hji e.symm), hb', Bool.or_false]
    refine ih (listed.setIfInBounds i true) σ' _ a' w' (by simpa using hsz) ?_ ?_ hr' ?_ (fun k hkb => ?_) (fun j hj hlj => ?_) fun k hkb => ?_
    · have := countP_drop (E := fun j => listed.getD j false) hif (List.range ops.size) (by simpa using hilt)
      have he : (fun j => !(listed.setIfInBounds i true).getD j false) = fun j => !(listed.getD j false || j == i) := by
        funext j; rw [congrFun hE' j]
      rw [he]
      omega
    · intro j hj o2 ho2 e he hbe
      by_cases hji : j = i
      · subst hji
        rw [ho] at ho2
        injection ho2 with ho2; subst ho2
        exact getD_set_true (hdeps e he hbe)
      · have hj' : (listed.setIfInBounds i true).getD j false = true := hj
        rw [getD_set_ne false (fun e => hji e.symm)] at hj'
        exact getD_set_true (hcl j hj' o2 ho2 e he hbe)
    · rw [hE']
      refine ⟨?_, fun t s ht => ?_, fun k B hk' => ?_⟩
      · rw [app_nt, foldE_nt, ← hs.nt, foldE_nt]
      · rw [app_fr]
        by_cases hd : o.dst = some t
        · rw [if_pos hd]
          rw [← hxd] at hd
          have hlast := foldE_last_fr (fun j => listed.getD j false || j == i) t L 0 i S0 x hx hd (by simp) (fun m y hm hy hyd => by
            rw [Nat.zero_add]
            have h2 := wS t m y (hsn.sl t hd) hy hyd
            have hb' : (m == i) = false := by simp; omega
            simp only [h2, hb', Bool.or_false, decide_eq_false_iff_not]; omega)
          rw [hlast] at ht
          exact ht
        · rw [if_neg hd]
          refine hs.fr t s ?_
          rw [← ht]
          refine foldE_fr _ _ t L 0 S0 S0 (fun j y hy hyd => ?_) rfl
          rw [Nat.zero_add]
          by_cases hji : j = i
          · subst hji
            rw [hx] at hy; injection hy with hy; subst hy
            rw [hxd] at hyd; exact absurd hyd hd
          · have hb' : (j == i) = false := by simpa using hji
            simp [hb']
      · by_cases hd : k ∈ wBoxes x.key x.eff
        · have hlast := foldE_last_bx (fun j => listed.getD j false || j == i) k L 0 i S0 x hx hd (by simp) (fun m y hm hy hyd => by
            rw [Nat.zero_add]
            have h2 := wB k m y (hsn.bo k hd) hy hyd
            have hb' : (m == i) = false := by simp; omega
            simp only [h2, hb', Bool.or_false, decide_eq_false_iff_not]; omega)
          rw [hlast] at hk'
          rw [hxk] at hd hk'
          rw [app_bx_in _ _ _ _ _ hd]
          exact hk'
        · rw [hxk] at hd
          rw [app_bx_out _ _ _ _ _ hd]
          refine hs.bx k B ?_
          rw [← hk']
          refine foldE_bx _ _ k L 0 S0 S0 (fun j y hy hyd => ?_) rfl
          rw [Nat.zero_add]
          by_cases hji : j = i
          · subst hji
            rw [hx] at hy; injection hy with hy; subst hy
            rw [hxk] at hyd; exact absurd hyd hd
          · have hb' : (j == i) = false := by simpa using hji
            simp [hb']
    · rw [hk k (by omega)]; exact hb k hkb
    · have hji : j ≠ i := by rintro rfl; simp [hils] at hlj
      rw [getD_set_ne false (fun e => hji e.symm)] at hlj
      rw [hk _ (by omega)]; exact hf0 j hj hlj
    · rw [hk k (by omega)]; exact hf k hkb
end

/-- A region, of either kind. -/
def region (P : Program) (base : Nat) (ops : Array Oper) (draw : Bool) (sc : List (Nat × An)) (S : St) : Option (St × List Prop) :=
  match draw with
  | false => match execOps P base ops.toList sc 0 ops.toList S with
    | some (S', obs) => some ({ S' with nx := base + ops.toList.length }, obs)
    | none => none
  | true => match backB 0 ops.toList, writesOf P base ops.toList sc 0 ops.toList S with
    | true, some W => match drawn P base ops.toList sc (depsAll ops.toList []) W 0 ops.toList S with
      | some (_, S', obs) => some ({ S' with nx := base + ops.toList.length }, obs)
      | none => none
    | _, _ => none

theorem Rel.nx {E : Env} {σ : Nat → Option Value} {S : St} {a : Act} {w : World} (h : Rel E σ S a w) (n : Nat) : Rel E σ { S with nx := n } a w := ⟨h.toMem, h.dfs, h.nt, h.fr⟩

theorem After.nx {E : Env} {σ : Nat → Option Value} {base n m : Nat} {S : St} (e : Exit) (a : Act) (w : World) (h : After E σ base n S e a w) : After E σ base n { S with nx := m } e a w := by
  obtain ⟨h1, σ', h2, h3, h4⟩ := h
  exact ⟨h1, σ', h2.nx m, h3, h4⟩

theorem wp_region_sym {P : Program} {E : Env} {σ : Nat → Option Value} {S S' : St} {a : Act} {w : World} {id base : Nat} {ops : Array Oper} {draw : Bool} {sc : List (Nat × An)} {obs : List Prop} (hm : P.follows .mixedOrders = true)
    (he : region P base ops draw sc S = some (S', obs)) (ho : AllP obs) (h : Rel E σ S a w) (hf : ∀ k, base ≤ k → σ k = none) :
    (Code.region id ops draw).wp P (After E σ base ops.size S') a w := by
  have hlen : ops.toList.length = ops.size := by simp
  unfold region at he
  split at he
  · split at he
    · rename_i S1 obs1 h1
      injection he with he; injection he with h2 h3; subst h2 h3
      have := execOps_ok (σ0 := σ) (ops := ops) h1 ho rfl (Nat.zero_le _) h (fun _ _ => rfl) (by simpa using hf)
      rw [hlen, ← List.range_eq_range'] at this
      exact wp_mono (wp_region this) After.nx
    · cases he
  · split at he
    · rename_i W hback hW
      split at he
      · rename_i L S1 obs1 h1
        injection he with he; injection he with h2 h3; subst h2 h3
        obtain ⟨g1, g2, g3⟩ := drawn_spec (ops := ops) h1 ho rfl
        refine wp_mono (wp_region_any hm ?_) After.nx
        have hno : ∀ j, (Array.replicate ops.size false).getD j false = false := by
          intro j; by_cases hj : j < ops.size <;> simp [hj]
        have hfold : ∀ (L : List D1) (i : Nat) (S : St), foldE (fun j => (Array.replicate ops.size false).getD j false) i L S = S := by
          intro L; induction L with
          | nil => intros; rfl
          | cons x L ih => intro i S; rw [foldE, hno, cond_false]; exact ih _ _
        refine wpAny_drawn (P := P) (E := E) (σ0 := σ) (T := S1) (S0 := S) (W := W) (sc := sc) (L := L) hback (by rw [g1]; exact hlen) g2 (fun m x hx => by have := g3 m x hx; rw [Nat.zero_add] at this; exact this)
          ops.size _ σ S a _ (by simp) ?_ ?_ (h.grown (grownBy_drew w _ none)) ?_ (fun _ _ => rfl) (fun j _ _ => hf _ (by omega)) (fun k hk => hf k (by omega))
        · exact Nat.le_trans (List.countP_le_length) (by simp)
        · intro j hj
          have hj' : (Array.replicate ops.size false).getD j false = true := hj
          rw [hno] at hj'; cases hj'
        · rw [hfold]; exact Sub.refl S
      · cases he
    · cases he
end Go.Hb
