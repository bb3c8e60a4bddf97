/-
  THE SYMBOLIC LAYER, PART E: 'evR' is right: the model's run of an operation that leaves the memory alone hands back what 'evR' says.
-/
import Derived.Test.YtfcdfbafgmegfaaSyD
namespace Go.Hb
open Go.RowKit
section
variable {P : Program} {E : Env} {σ : Nat → Option Value} {S V0 : St} {a : Act} {w : World} {bad : Nat → Prop}

theorem run_evUn {op : UnOp} {s r : V} (h : evUn op s = some r) {x : Value} (hx : CV σ w bad s x) : ∃ v, (Op.unary op x).run P w = .ok v w ∧ CV σ w bad r v := by
  unfold evUn at h
  split at h
  · injection h with h; subst h
    cases hx with
    | data hd => cases hd; exact ⟨_, rfl, .data .bool⟩
  · injection h with h; subst h
    cases hx with
    | data hd => cases hd; exact ⟨_, rfl, .data .tt⟩
  · injection h with h; subst h
    cases hx with
    | data hd => cases hd; exact ⟨_, rfl, .data .int⟩
  · cases h

theorem run_evConv {src dst : TypeId} {s r : V} (h : evConv P src dst s = some r) {x : Value} (hx : CV σ w bad s x) : ∃ v, (convert src dst x).run P w = .ok v w ∧ CV σ w bad r v := by
  unfold evConv at h
  split at h
  · rename_i k1 k2 k3 n hs hd
    injection h with h; subst h
    cases hx with
    | data hx => cases hx; exact ⟨_, by simp [convert, run_underlying hs, run_underlying hd, Conv.intToInt], .data .int⟩
  · rename_i s hs hd
    injection h with h; subst h
    cases hx with
    | data hx => cases hx; exact ⟨_, by simp [convert, run_underlying hs, run_underlying hd], .data .str⟩
  · cases h

theorem run_sliceBound {i : Int} {k : IntKind} {m : Nat} (h0 : 0 ≤ i) (h : i ≤ m) (code : BoundsCode) : (Instr.sliceBound (.int k i) m code).run P w = .ok i.toNat w := by
  simp [Instr.sliceBound, asIntOf, h0, h]

/-- What 'optV' says of an optional operand. -/
theorem optV_none {fr : List (Nat × V)} {x : Option Operand} (h : optV fr x = some none) : x = none := by
  cases x with
  | none => rfl
  | some y => simp only [optV] at h; cases hv : evo fr y <;> rw [hv] at h <;> simp at h
theorem optV_some {fr : List (Nat × V)} {x : Option Operand} {s : V} (h : optV fr x = some (some s)) : ∃ y, x = some y ∧ evo fr y = some s := by
  cases x with
  | none => simp [optV] at h
  | some y =>
    simp only [optV] at h
    cases hv : evo fr y with
    | none => rw [hv] at h; simp at h
    | some s' => rw [hv] at h; simp at h; subst h; exact ⟨y, rfl, hv⟩

theorem bound_lo (hs : Sub V0 S) (h : Rel E σ S a w) {x : Option Operand} {s : Option V} {l : Int} (h1 : optV V0.fr x = some s) (h2 : loBound s = some l) :
    (x = none ∧ l = 0) ∨ ∃ y k, x = some y ∧ a.eval y = .int k l := by
  unfold loBound at h2
  split at h2
  · injection h2 with h2; exact .inl ⟨optV_none h1, h2.symm⟩
  · injection h2 with h2; subst h2
    obtain ⟨y, rfl, hy⟩ := optV_some h1
    have := evo_ok hs h hy
    generalize hv : a.eval y = v at this
    cases this with
    | data hd => cases hd; exact .inr ⟨y, _, rfl, hv⟩
  · cases h2

theorem bound_hi (hs : Sub V0 S) (h : Rel E σ S a w) {x : Option Operand} {s : Option V} {l : Int} {d : Nat} (h1 : optV V0.fr x = some s) (h2 : hiBound d s = some l) :
    (x = none ∧ l = d) ∨ ∃ y k, x = some y ∧ a.eval y = .int k l := by
  unfold hiBound at h2
  split at h2
  · injection h2 with h2; exact .inl ⟨optV_none h1, h2.symm⟩
  · injection h2 with h2; subst h2
    obtain ⟨y, rfl, hy⟩ := optV_some h1
    have := evo_ok hs h hy
    generalize hv : a.eval y = v at this
    cases this with
    | data hd => cases hd; exact .inr ⟨y, _, rfl, hv⟩
  · cases h2

theorem run_sliceBounds {lo hi : Option Operand} {l h : Int} {len cap : Nat} (isS : Bool) (hlo : (lo = none ∧ l = 0) ∨ ∃ y k, lo = some y ∧ a.eval y = .int k l) (hhi : (hi = none ∧ h = len) ∨ ∃ y k, hi = some y ∧ a.eval y = .int k h)
    (h0 : 0 ≤ l ∧ l ≤ h) (h1 : h ≤ (len : Int)) (hc : len ≤ cap) : (Instr.sliceBounds isS len cap (lo.map a.eval) (hi.map a.eval) none).run P w = .ok (l.toNat, h.toNat, cap) w := by
  have hh : h.toNat ≤ cap := by omega
  have hl : l ≤ (h.toNat : Int) := by omega
  rcases hhi with ⟨rfl, rfl⟩ | ⟨y, k, rfl, hy⟩ <;> rcases hlo with ⟨rfl, rfl⟩ | ⟨z, k', rfl, hz⟩
  · simp [Instr.sliceBounds]
  · simp [Instr.sliceBounds, hz, run_sliceBound h0.1 (show l ≤ (len : Int) by omega)]
  · simp [Instr.sliceBounds, hy, run_sliceBound (show 0 ≤ h by omega) (show h ≤ (cap : Int) by omega)]
  · simp [Instr.sliceBounds, hy, hz, run_sliceBound (show 0 ≤ h by omega) (show h ≤ (cap : Int) by omega), run_sliceBound h0.1 hl]

theorem CD.cut {sz n : Nat} {f : Nat → List V} {o : Option Addr} {c : Nat} (h : CD w bad (.seq sz n f) (.slice o n c)) {l m : Nat} (hlm : l ≤ m) (hm : m ≤ n) :
    CD w bad (.seq sz (m - l) fun i => f (l + i)) (.slice (if c = l then o else o.map (·.add (l * sz))) (m - l) (c - l)) := by
  cases h with
  | seq _ b off _ u ho hnc hl hc hd hz =>
    have hz' : (if c = l then o else o.map (·.add (l * sz))) = none → c - l = 0 := by
      intro h
      split at h
      · omega
      · have := hz (by simpa using h); omega
    refine .seq _ b (off + l * sz) _ (fun i j => u (l + i) j) (fun hp => ?_) (by omega) (fun i hi => hl _ (by omega)) (fun i j hi hj => ?_) (fun i j s hi hs => hd _ j s (by omega) hs) hz'
    · have := ho (by omega)
      rw [if_neg (by omega), this]
      simp [addr_add]
    · have := hc (l + i) j (by omega) hj
      rw [Nat.add_mul, Nat.add_assoc (l * sz), ← Nat.add_assoc off] at this
      exact this

theorem run_evSlice {t : TypeId} {x : Operand} {lo hi mx : Option Operand} {r : V} {obs : List Prop} (h : evSlice P V0 t x lo hi mx = some (r, obs)) (ho : AllP obs) (hs : Sub V0 S) (hr : Rel E σ S a w) :
    ∃ v, (Instr.sliceAt t (a.eval x) (lo.map a.eval) (hi.map a.eval) (mx.map a.eval)).run P w = .ok v w ∧ CV σ w (badOf E σ S.bx) r v := by
  unfold evSlice at h
  split at h
  · cases h
  · split at h
    · rename_i lo' hi' hlo hhi
      split at h
      · rename_i s hx
        have hv := evo_ok hs hr hx
        generalize a.eval x = y at hv ⊢
        cases hv with
        | data hd =>
          cases hd
          split at h
          · rename_i l hh ht hl hh'
            injection h with h; injection h with h1 h2; subst h1 h2
            obtain ⟨hb1, hb2, _⟩ := ho
            refine ⟨_, ?_, .data .str⟩
            simp [Instr.sliceAt, run_underlying ht, Instr.slice, run_sliceBounds false (bound_lo hs hr hlo hl) (bound_hi hs hr hhi hh') hb1 hb2 (Nat.le_refl _)]
          · cases h
      · rename_i sz n f hx
        have hv := evo_ok hs hr hx
        generalize a.eval x = y at hv ⊢
        split at h
        · rename_i e l hh ht hl hh'
          split at h
          · rename_i sz' hsz
            split at h
            · rename_i hz
              rw [Nat.beq_eq] at hz
              subst hz
              injection h with h; injection h with h1 h2; subst h1 h2
              obtain ⟨hb1, hb2, _⟩ := ho
              cases hv with
              | data hd =>
                have hd0 := hd
                cases hd with
                | seq o b off c u hoo hnc =>
                  refine ⟨_, ?_, .data (hd0.cut (l := l.toNat) (m := hh.toNat) (by omega) (by omega))⟩
                  simp [Instr.sliceAt, run_underlying ht, Instr.slice, run_sliceBounds true (bound_lo hs hr hlo hl) (bound_hi hs hr hhi hh') hb1 hb2 hnc, run_sizeOf hsz]
            · cases h
          · cases h
        · cases h
      · cases h
    · cases h

theorem run_evLen {t : TypeId} {s r : V} (h : evLen P V0 t s = some r) (hs : Sub V0 S) (hr : Rel E σ S a w) {x : Value} (hx : CV σ w (badOf E σ S.bx) s x) (ts : List TypeId) (ty : TypeId) :
    ∃ v, (Builtin.len_ (t :: ts).toArray ty #[x]).run P w = .ok v w ∧ CV σ w (badOf E σ S.bx) r v := by
  unfold evLen at h
  split at h
  · rename_i ht
    split at h
    · injection h with h; subst h
      cases hx with
      | data hd => cases hd; exact ⟨_, by simp [Builtin.len_, run_underlying ht, goInt], .data .int⟩
    · cases h
  · rename_i e ht
    have hlen : ∀ o n c, (Builtin.len_ (t :: ts).toArray ty #[.slice o n c]).run P w = .ok (.int .i64 n) w := by
      intro o n c; simp [Builtin.len_, run_underlying ht, goInt]
    split at h
    · injection h with h; subst h
      cases hx with
      | data hd => cases hd; exact ⟨_, hlen _ _ _, .data .int⟩
    · injection h with h; subst h
      cases hx with
      | data hd => cases hd
      | row b hb => exact ⟨_, hlen _ _ _, .data .int⟩
    · injection h with h; subst h
      cases hx with
      | data hd => cases hd; exact ⟨_, hlen _ _ _, .data .int⟩
    · injection h with h; subst h
      cases hx with
      | data hd => cases hd; exact ⟨_, hlen _ _ _, .data .int⟩
    · rename_i k
      split at h
      · rename_i ty' sz n f hk
        injection h with h; subst h
        cases hx with
        | data hd => cases hd
        | vec v hb =>
          have hbox := hr.box k _ (hs.bx _ _ hk)
          cases hbox with
          | vec v' xs hk' hown hl hc =>
            rw [hk'] at hb
            injection hb with hb; subst hb
            rcases hown.2 with ⟨rfl, h0⟩ | ⟨g, cap, cur, rfl, _⟩
            · subst h0; exact ⟨_, hlen _ _ _, .data .int⟩
            · exact ⟨_, hlen _ _ _, .data .int⟩
      · cases h
    · cases h
  · rename_i e1 e2 ht
    have hmap : ∀ k n r (val : Int → Option Value), σ k = some (.map (some r)) → IntMap w r n val → CV σ w (badOf E σ S.bx) (.map k) x → (Builtin.len_ (t :: ts).toArray ty #[x]).run P w = .ok (.int .i64 n) w := by
      intro k n r val hσ hm hx
      cases hx with
      | data hd => cases hd
      | map r' hb =>
        rw [hσ] at hb
        injection hb with hb; injection hb with hb; injection hb with hb; subst hb
        obtain ⟨es, clock, h1, h2, _⟩ := hm
        simp [Builtin.len_, run_underlying ht, goInt, getObj, Sem.run, h1, h2]
    split at h
    · rename_i k
      split at h
      · rename_i n m hk
        injection h with h; subst h
        have hbox := hr.box k _ (hs.bx _ _ hk)
        cases hbox with
        | mapB r hk' hm => exact ⟨_, hmap k n r _ hk' hm hx, .data .int⟩
      · rename_i n m hk
        injection h with h; subst h
        have hbox := hr.box k _ (hs.bx _ _ hk)
        cases hbox with
        | mapI r hk' hm => exact ⟨_, hmap k n r _ hk' hm hx, .data .int⟩
      · cases h
    · cases h
  · cases h

theorem evList_ok (hs : Sub V0 S) (hr : Rel E σ S a w) : ∀ {l : List Operand} {r : List V}, evList V0.fr l = some r →
    r.length = l.length ∧ ∀ (j : Nat) (s : V), r[j]? = some s → ∃ x, l[j]? = some x ∧ CV σ w (badOf E σ S.bx) s (a.eval x)
  | [], r, h => by simp [evList] at h; subst h; simp
  | x :: l, r, h => by
    unfold evList at h
    split at h
    · rename_i s r' h1 h2
      injection h with h; subst h
      obtain ⟨h3, h4⟩ := evList_ok hs hr h2
      refine ⟨by simp [h3], fun j s' hj => ?_⟩
      cases j with
      | zero => simp at hj; subst hj; exact ⟨x, by simp, evo_ok hs hr h1⟩
      | succ j => simpa using h4 j s' (by simpa using hj)
    · cases h

theorem run_evBuiltin {b : Builtin} {ts : Array TypeId} {args : List Operand} {r : V} (h : evBuiltin P V0 b ts args = some r) (hs : Sub V0 S) (hr : Rel E σ S a w) (ty : TypeId) (cs : Array Bool) :
    ∃ v, (builtin b ts ty cs (args.map a.eval).toArray).run P w = .ok (.value v) w ∧ CV σ w (badOf E σ S.bx) r v := by
  unfold evBuiltin at h
  split at h
  · rename_i s hl
    obtain ⟨h1, h2⟩ := evList_ok hs hr hl
    obtain ⟨x, rfl⟩ : ∃ x, args = [x] := by
      match args, h1 with
      | [x], _ => exact ⟨x, rfl⟩
    obtain ⟨y, hy, hc⟩ := h2 0 s rfl
    simp at hy; subst hy
    split at h
    · rename_i t ts' hts
      obtain ⟨v, h3, h4⟩ := run_evLen h hs hr hc ts' ty
      refine ⟨v, ?_, h4⟩
      have : ts = (t :: ts').toArray := by rw [← hts]
      subst this
      simp only [builtin, List.map_cons, List.map_nil, Sem.run_bind, h3, Result.andThen_ok]; rfl
    · cases h
  · rename_i k x k' y hl
    obtain ⟨h1, h2⟩ := evList_ok hs hr hl
    obtain ⟨p, q, rfl⟩ : ∃ p q, args = [p, q] := by
      match args, h1 with
      | [p, q], _ => exact ⟨p, q, rfl⟩
    obtain ⟨p', hp, hcp⟩ := h2 0 _ rfl
    obtain ⟨q', hq, hcq⟩ := h2 1 _ rfl
    simp at hp hq; subst hp hq
    split at h
    · rename_i hk
      obtain rfl := kEq_ok hk
      injection h with h; subst h
      simp only [List.map_cons, List.map_nil]
      generalize a.eval p = vp at hcp ⊢
      generalize a.eval q = vq at hcq ⊢
      cases hcp with
      | data hd => cases hd; cases hcq with
        | data hd => cases hd; exact ⟨_, by simp [builtin, Builtin.min_, Builtin.min2], .data .int⟩
    · cases h
  · rename_i k x k' y hl
    obtain ⟨h1, h2⟩ := evList_ok hs hr hl
    obtain ⟨p, q, rfl⟩ : ∃ p q, args = [p, q] := by
      match args, h1 with
      | [p, q], _ => exact ⟨p, q, rfl⟩
    obtain ⟨p', hp, hcp⟩ := h2 0 _ rfl
    obtain ⟨q', hq, hcq⟩ := h2 1 _ rfl
    simp at hp hq; subst hp hq
    split at h
    · rename_i hk
      obtain rfl := kEq_ok hk
      injection h with h; subst h
      simp only [List.map_cons, List.map_nil]
      generalize a.eval p = vp at hcp ⊢
      generalize a.eval q = vq at hcq ⊢
      cases hcp with
      | data hd => cases hd; cases hcq with
        | data hd => cases hd; exact ⟨_, by simp [builtin, Builtin.max_, Builtin.max2], .data .int⟩
    · cases h
  · cases h

/-- A part of a value. -/
theorem run_part {t : TypeId} {l : List V} {off : Nat} {r : V} {obs : List Prop} {ans : Ans} (h : loadA P t l off ans = some (r, obs)) (ho : AllP obs) {v : Value} (hv : CV σ w bad (.agg l) v) :
    ∃ vs, v = .agg vs ∧ ∃ v', (part t vs off).run P w = .ok v' w ∧ CV σ w bad r v' := by
  cases hv with
  | data hd => cases hd
  | agg vs u hs hvs h1 hd =>
    refine ⟨vs, rfl, ?_⟩
    -- a memory in which the parts lie
    have key : ∀ (obs : List Prop), loadOb P t l off r = some obs → AllP obs → ∃ v', (part t vs off).run P w = .ok v' w ∧ CV σ w bad r v' := by
      intro obs hob ho
      unfold loadOb at hob
      split at hob
      · rename_i hag
        split at hob
        · rename_i sz hsz
          injection hob with hob; subst hob
          obtain ⟨hle, hr, _⟩ := ho
          subst hr
          refine ⟨.agg (vs.extract off (off + sz)), by simp [part, run_isAgg hag, run_sizeOf hsz], ?_⟩
          have hlen : ((l.drop off).take sz).length = sz := by simp; omega
          refine .agg _ (fun j => u (off + j)) (by simp; omega) (fun j hj => ?_) (fun j hj => ?_) fun j s hj => ?_
          · rw [hlen] at hj
            rw [Array.getElem?_extract, if_pos (by omega)]
            exact hvs _ (by omega)
          · rw [hlen] at hj; exact h1 _ (by omega)
          · have hjs : j < sz := by have := (List.getElem?_eq_some_iff.1 hj).1; rw [hlen] at this; exact this
            refine hd (off + j) s ?_
            rw [List.getElem?_take, if_pos hjs, List.getElem?_drop] at hj
            exact hj
        · cases hob
      · rename_i hag
        injection hob with hob; subst hob
        obtain ⟨hr, _⟩ := ho
        have hlt := (List.getElem?_eq_some_iff.1 hr).1
        refine ⟨u off, ?_, hd off r hr⟩
        simp [part, run_isAgg hag, hvs off hlt]
      · cases hob
    -- either told or found
    unfold loadA at h
    split at h
    · split at h
      · rename_i obs' hob
        injection h with h; injection h with h3 h4; subst h3 h4
        exact key _ hob ho
      · cases h
    · split at h
      · rename_i r' hr
        injection h with h; injection h with h3 h4; subst h3 h4
        have : ∃ obs, loadOb P t l off r' = some obs ∧ AllP obs := by
          unfold loadL at hr
          unfold loadOb
          split at hr
          · split at hr
            · split at hr
              · rename_i hz
                simp only [Bool.and_eq_true, Nat.beq_eq] at hz
                injection hr with hr
                exact ⟨_, rfl, by omega, by rw [← hr, hz.1, hz.2]; simp, trivial⟩
              · split at hr
                · rename_i hle
                  injection hr with hr
                  exact ⟨_, rfl, Nat.le_of_ble_eq_true hle, hr.symm, trivial⟩
                · cases hr
            · cases hr
          · exact ⟨_, rfl, hr, trivial⟩
          · cases hr
        obtain ⟨obs, h5, h6⟩ := this
        exact key _ h5 h6
      · cases h

theorem run_evIndex {t : TypeId} {x ix : Operand} {ans : Ans} {r : V} {obs : List Prop} (h : evIndex P V0 t x ix ans = some (r, obs)) (ho : AllP obs) (hs : Sub V0 S) (hr : Rel E σ S a w) :
    ∃ v, (Instr.index t (a.eval x) (a.eval ix)).run P w = .ok v w ∧ CV σ w (badOf E σ S.bx) r v := by
  unfold evIndex at h
  split at h
  · rename_i k i hix
    have hvi := evo_ok hs hr hix
    generalize a.eval ix = yi at hvi ⊢
    cases hvi with
    | data hd =>
      cases hd
      split at h
      · rename_i l hx
        have hv := evo_ok hs hr hx
        generalize a.eval x = y at hv ⊢
        split at h
        · rename_i len e ht
          split at h
          · rename_i sz hsz
            split at h
            · rename_i r' obs' hl
              injection h with h; injection h with h1 h2; subst h1 h2
              obtain ⟨vs, rfl, v', h3, h4⟩ := run_part hl ho.2 hv
              refine ⟨v', ?_, h4⟩
              have hi := ho.1
              simp [Instr.index, asIntOf, run_underlying ht, hi, run_sizeOf hsz, h3]
            · cases h
          · cases h
        · cases h
      · rename_i s hx
        have hv := evo_ok hs hr hx
        generalize a.eval x = y at hv ⊢
        split at h
        · rename_i ht
          injection h with h; injection h with h1 h2; subst h1 h2
          cases hv with
          | data hd =>
            cases hd
            obtain ⟨⟨hi0, hi1⟩, _⟩ := ho
            refine ⟨_, ?_, .data .int⟩
            have hlt : i.toNat < s.size := by omega
            have he : s[i.toNat]? = some (s.data.getD i.toNat 0) := by
              have hlt' : i.toNat < s.data.size := hlt
              rw [getElem?_pos s i.toNat hlt]
              have h1 : s.data.getD i.toNat 0 = s.data[i.toNat]'hlt' := by simp [Array.getD, hlt]
              rw [h1]; rfl
            simp [Instr.index, asIntOf, run_underlying ht, hi0, he]
        · cases h
      · cases h
  · cases h

theorem run_evField {t : TypeId} {x : Operand} {f : Nat} {r : V} {obs : List Prop} (h : evField P V0 t x f = some (r, obs)) (ho : AllP obs) (hs : Sub V0 S) (hr : Rel E σ S a w) :
    ∃ v, (Instr.field t (a.eval x) f).run P w = .ok v w ∧ CV σ w (badOf E σ S.bx) r v := by
  unfold evField at h
  split at h
  · rename_i fs ht
    split at h
    · rename_i fd hf
      split at h
      · rename_i l hx
        obtain ⟨vs, hv, v', h3, h4⟩ := run_part h ho (evo_ok hs hr hx)
        refine ⟨v', ?_, h4⟩
        rw [hv]
        simp [Instr.field, run_underlying ht, hf, asAgg, h3]
      · cases h
    · cases h
  · cases h
end
end Go.Hb
