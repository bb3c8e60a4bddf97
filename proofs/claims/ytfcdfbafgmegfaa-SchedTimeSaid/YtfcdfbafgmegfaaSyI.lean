/-
  THE SYMBOLIC LAYER, PART I: append, make.
-/
import Derived.Test.YtfcdfbafgmegfaaSyH
namespace Go.Hb
open Go.RowKit
section
variable {P : Program} {E : Env} {σ σ' : Nat → Option Value} {S V0 : St} {a : Act} {w w' : World} {bad : Nat → Prop} {key : Nat} {dst : Option Tmp}

/-- What an append takes from, in a memory. -/
structure Src (w : World) (bad : Nat → Prop) (sz m : Nat) (g : Nat → List V) (x : Value) (news : List Value) : Prop where
  is : ∃ o c, x = .slice o m c ∧ (o = none → m = 0) ∧ ∀ ad, o = some ad → ∀ (j : Nat) (u : Value), news[j]? = some u → w.cell? (ad.add j) = some u
  len : news.length = m * sz
  one : ∀ u ∈ news, u.oneCell' = true
  gl : ∀ i, i < m → (g i).length = sz
  at_ : ∀ (i j : Nat) (r : V), i < m → (g i)[j]? = some r → ∃ u, news[i * sz + j]? = some u ∧ CD w bad r u

theorem mul_lt {i j m sz : Nat} (hi : i < m) (hj : j < sz) : i * sz + j < m * sz := by
  have : (i + 1) * sz ≤ m * sz := Nat.mul_le_mul_right sz hi
  rw [Nat.add_mul] at this; omega

theorem pos_of_lt_mul {t m sz : Nat} (h : t < m * sz) : 0 < sz := by
  rcases Nat.eq_zero_or_pos sz with h0 | h0
  · subst h0; omega
  · exact h0

theorem srcOf_ok {sz m : Nat} {g : Nat → List V} {s : V} (he : srcOf V0 sz s = some (m, g)) (hs : Sub V0 S) (h : Rel E σ S a w) {x : Value} (hx : CV σ w (badOf E σ S.bx) s x) : ∃ news, Src w (badOf E σ S.bx) sz m g x news := by
  unfold srcOf at he
  split at he
  · injection he with he; injection he with h1 h2; subst h1 h2
    cases hx with
    | data hd => cases hd; exact ⟨[], ⟨⟨none, 0, rfl, fun _ => rfl, by simp⟩, by simp, by simp, by simp, by simp⟩⟩
  · injection he with he; injection he with h1 h2; subst h1 h2
    cases hx with
    | data hd => cases hd with
      | esl ad c => exact ⟨[], ⟨⟨some ad, c, rfl, by simp, by simp⟩, by simp, by simp, by simp, by simp⟩⟩
  · rename_i sz' m' g'
    split at he
    · rename_i hz
      rw [Nat.beq_eq] at hz; subst hz
      injection he with he; injection he with h1 h2; subst h1 h2
      cases hx with
      | data hd => cases hd with
        | seq o b off c u hoo hnc hl hc hd =>
          have hone : ∀ i j, i < m' → j < sz → (u i j).oneCell' = true := by
            intro i j hi hj
            have : j < (g' i).length := by rw [hl i hi]; exact hj
            exact (hd i j _ hi (List.getElem?_eq_getElem this)).oneCell
          have hdm : ∀ t, t < m' * sz → t / sz < m' ∧ t % sz < sz ∧ t / sz * sz + t % sz = t := by
            intro t ht
            have hsz : 0 < sz := pos_of_lt_mul ht
            exact ⟨Nat.div_lt_of_lt_mul (by rw [Nat.mul_comm]; exact ht), Nat.mod_lt _ hsz, by rw [Nat.mul_comm]; exact Nat.div_add_mod t sz⟩
          refine ⟨(List.range (m' * sz)).map fun t => u (t / sz) (t % sz), ⟨⟨o, c, rfl, fun hn => ?_, fun ad had t v hv => ?_⟩, by simp, fun v hv => ?_, hl, fun i j r hi hr => ?_⟩⟩
          · rcases Nat.eq_zero_or_pos m' with h0 | h0
            · exact h0
            · rw [hoo h0] at hn; cases hn
          · have ht : t < m' * sz := by simpa using (List.getElem?_eq_some_iff.1 hv).1
            obtain ⟨h1, h2, h3⟩ := hdm t ht
            have : o = some ⟨b, off, none⟩ := hoo (Nat.lt_of_le_of_lt (Nat.zero_le _) h1)
            rw [this] at had
            injection had with had; subst had
            rw [addr_add]
            have := (hc _ _ h1 h2).2
            rw [h3] at this
            rw [this, ← hv]; simp [ht]
          · simp only [List.mem_map, List.mem_range] at hv
            obtain ⟨t, ht, rfl⟩ := hv
            obtain ⟨h1, h2, _⟩ := hdm t ht
            exact hone _ _ h1 h2
          · have hj : j < sz := by rw [← hl i hi]; exact (List.getElem?_eq_some_iff.1 hr).1
            have hlt := mul_lt hi hj
            refine ⟨u i j, ?_, hd i j r hi hr⟩
            have h1 : (i * sz + j) / sz = i := by
              rw [Nat.mul_comm, Nat.mul_add_div (by omega), Nat.div_eq_of_lt hj]; omega
            have h2 : (i * sz + j) % sz = j := by rw [Nat.mul_comm, Nat.mul_add_mod, Nat.mod_eq_of_lt hj]
            simp [hlt, h1, h2]
    · cases he
  · rename_i k off m' c
    split at he
    · rename_i ty l hk
      split at he
      · rename_i hle
        simp only [Bool.and_eq_true] at hle
        obtain ⟨hle, hld⟩ := hle
        have hle := Nat.le_of_ble_eq_true hle
        injection he with he; injection he with h1 h2; subst h1 h2
        cases hx with
        | data hd => cases hd
        | row b hb =>
          obtain ⟨b', u, hσ, hl, hc, h1⟩ := (h.box k _ (hs.bx _ _ hk)).lies_cells
          rw [hb] at hσ
          injection hσ with hσ; injection hσ with hσ; injection hσ with hσ; injection hσ with hσ
          subst hσ
          refine ⟨(List.range (m' * sz)).map fun t => u (off + t), ⟨⟨_, c, rfl, by simp, fun ad had t v hv => ?_⟩, by simp, fun v hv => ?_, fun i hi => ?_, fun i j r hi hr => ?_⟩⟩
          · have ht : t < m' * sz := by simpa using (List.getElem?_eq_some_iff.1 hv).1
            injection had with had; subst had
            rw [addr_add]
            have := hl (off + t) (by omega)
            rw [Nat.zero_add] at this
            rw [this, ← hv]; simp [ht]
          · simp only [List.mem_map, List.mem_range] at hv
            obtain ⟨t, ht, rfl⟩ := hv
            exact h1 _ (by omega)
          · have := mul_lt (j := sz - 1) (sz := sz) hi
            rcases Nat.eq_zero_or_pos sz with h0 | h0
            · subst h0; simp
            · have := this (by omega); simp; omega
          · have hj : j < sz := by have := (List.getElem?_eq_some_iff.1 hr).1; simp at this; omega
            have hlt := mul_lt hi hj
            rw [List.getElem?_take, if_pos hj, List.getElem?_drop] at hr
            refine ⟨u (off + (i * sz + j)), by simp [hlt], ?_⟩
            rw [← Nat.add_assoc]
            exact (hc _ r hr).toD (allD_get hld _ r hr)
      · cases he
    · cases he
  · rename_i k
    split at he
    · rename_i ty sz' m' g' hk
      split at he
      · rename_i hz
        rw [Nat.beq_eq] at hz; subst hz
        injection he with he; injection he with h1 h2; subst h1 h2
        cases hx with
        | data hd => cases hd
        | vec v hb =>
          cases h.box k _ (hs.bx _ _ hk) with
          | vec v' xs hk' hown hl hc =>
            rw [hk'] at hb
            injection hb with hb; subst hb
            have hone : ∀ u ∈ xs, u.oneCell' = true := by
              intro u hu
              obtain ⟨t, ht⟩ := List.mem_iff_getElem?.1 hu
              have htl : t < m' * sz := by rw [← hown.1]; exact (List.getElem?_eq_some_iff.1 ht).1
              have hsz : 0 < sz := pos_of_lt_mul htl
              have h1 : t / sz < m' := Nat.div_lt_of_lt_mul (by rw [Nat.mul_comm]; exact htl)
              have h2 : t % sz < sz := Nat.mod_lt _ hsz
              have h3 : t / sz * sz + t % sz = t := by rw [Nat.mul_comm]; exact Nat.div_add_mod t sz
              obtain ⟨x, hx, h4⟩ := hc (t / sz) (t % sz) _ h1 (List.getElem?_eq_getElem (by rw [hl _ h1]; exact h2))
              rw [h3, ht] at hx
              injection hx with hx; rw [hx]; exact h4.oneCell
            refine ⟨xs, ⟨?_, hown.1, hone, hl, hc⟩⟩
            rcases hown.2 with ⟨rfl, h0⟩ | ⟨g, cap, cur, rfl, _, hg, hnc, _, hcur, htake⟩
            · subst h0
              refine ⟨none, 0, rfl, fun _ => rfl, by simp⟩
            · refine ⟨_, cap, rfl, by simp, fun ad had t v hv => ?_⟩
              injection had with had; subst had
              exact hown.cells (g := g) rfl t v hv
      · cases he
    · cases he
  · cases he

theorem run_append_src {t ty e : TypeId} {i : TypeInfo} {z : Value} {sz n m : Nat} {g : Nat → List V} {v x : Value} {xs news : List Value} (ht : P.underlying t = some (.slice e)) (hi : P.info? e = some i) (hz : i.zero = some z)
    (hsz : i.size = sz) (hzs : z.cells.size = sz) (h1 : 0 < sz) (hown : w.ownsRow 0 e sz v n xs) (hs : Src w bad sz m g x news) (hb : (n + m) * i.bytes ≤ 140737488355328) (hm : n + m ≤ maxLen) :
    ∃ v' w', (Builtin.append_ #[t, t] ty #[v, x]).run P w = .ok v' w' ∧ w'.ownsRow 0 e sz v' (n + m) (xs ++ news) ∧ w.grownBy w' v.ownBlock ∧ (v'.ownBlock = v.ownBlock ∨ v'.ownBlock = some w.heap.size) := by
  obtain ⟨o, c, rfl, ho, hc⟩ := hs.is
  cases o with
  | some ad =>
    obtain ⟨v', w', h2, h3, h4, _, h5⟩ := run_append_own_at (P := P) w 0 t ty e i z sz i.bytes ht hi hz hsz rfl hzs h1 v n xs hown ad m c news hs.len (hc ad rfl) hs.one hm hb (Nat.zero_le _)
    exact ⟨v', w', h2, h3, h4, h5⟩
  | none =>
    obtain rfl := ho rfl
    have hn : news = [] := List.eq_nil_of_length_eq_zero (by simpa using hs.len)
    subst hn
    refine ⟨v, w, ?_, by simpa using hown, World.grownBy.refl w _, .inl rfl⟩
    rcases hown.2 with ⟨rfl, rfl⟩ | ⟨g, cap, cur, rfl, _, _, hnc, _⟩
    · simp [Builtin.append_, run_underlying ht, sizeOf, typeInfo, hi, Builtin.lenOf, Builtin.firstCells]
    · simp [Builtin.append_, run_underlying ht, sizeOf, typeInfo, hi, Builtin.lenOf, Builtin.firstCells, hnc, storeCells]

theorem own_slice {e sz n : Nat} {v : Value} {xs : List Value} (h : w.ownsRow 0 e sz v n xs) : blkOf (some v) = v.ownBlock := by
  rcases h.2 with ⟨rfl, _⟩ | ⟨g, cap, cur, rfl, _⟩ <;> rfl

/-- The joined row. -/
theorem brel_join {σ1 : Nat → Option Value} {bad1 : Nat → Prop} {key e sz n m : Nat} {f g : Nat → List V} {v' x : Value} {xs news : List Value} (hk : σ1 key = some v') (hown : w'.ownsRow 0 e sz v' (n + m) (xs ++ news))
    (hxl : xs.length = n * sz) (hl : ∀ i, i < n → (f i).length = sz) (hc : ∀ (i j : Nat) (r : V), i < n → (f i)[j]? = some r → ∃ u, xs[i * sz + j]? = some u ∧ CD w bad r u) (hs : Src w bad sz m g x news)
    (hm : ∀ r u, CD w bad r u → CD w' bad1 r u) : BRel σ1 w' bad1 key (.vec e sz (n + m) (joinF n f g)) := by
  refine .vec v' (xs ++ news) hk hown (fun i hi => ?_) fun i j r hi hr => ?_
  · unfold joinF
    split
    · exact hl i (by assumption)
    · exact hs.gl _ (by omega)
  · unfold joinF at hr
    split at hr
    · rename_i hin
      obtain ⟨u, h1, h2⟩ := hc i j r hin hr
      have hlt := (List.getElem?_eq_some_iff.1 h1).1
      exact ⟨u, by rw [List.getElem?_append, if_pos hlt]; exact h1, hm _ _ h2⟩
    · rename_i hin
      obtain ⟨u, h1, h2⟩ := hs.at_ (i - n) j r (by omega) hr
      refine ⟨u, ?_, hm _ _ h2⟩
      have he : i * sz + j = n * sz + ((i - n) * sz + j) := by
        have : i = n + (i - n) := by omega
        rw [show i * sz = (n + (i - n)) * sz from by rw [← this], Nat.add_mul]; omega
      rw [List.getElem?_append, if_neg (by omega), he, hxl, Nat.add_sub_cancel_left]
      exact h1

theorem good_append {t ty : TypeId} {s x : V} {e : Eff} {obs : List Prop} (he : evAppend P V0 key t s x = some (e, obs)) (ho : AllP obs) (hs : Sub V0 S) (h : Rel E σ S a w) (ht : ∀ t, dst = some t → t < S.nt) (hf : σ key = none)
    {vs vx : Value} (hvs : CV σ w (badOf E σ S.bx) s vs) (hvx : CV σ w (badOf E σ S.bx) x vx) :
    ∃ v w', (Builtin.append_ #[t, t] ty #[vs, vx]).run P w = .ok v w' ∧ Good E σ S key a (.ok (.value v) w') dst e := by
  unfold evAppend at he
  split at he
  · rename_i el htt
    split at he
    · rename_i i sz z hi hsz hz
      obtain ⟨i', zv, hi', hzv, hzr⟩ := zeroL_ok (σ := σ) hz w (badOf E σ S.bx)
      rw [hi] at hi'
      injection hi' with hi'; subst hi'
      have hisz : i.size = sz := by simpa [szT, hi] using hsz
      split at he
      · rename_i m g hb hsrc
        simp only [Bool.and_eq_true, Nat.beq_eq] at hb
        obtain ⟨hb1, hb2⟩ := hb
        have hpos : 0 < sz := Nat.le_of_ble_eq_true hb2
        have hzs : zv.cells.size = sz := by rw [hzr.1]; exact hb1
        obtain ⟨news, hS⟩ := srcOf_ok hsrc hs h hvx
        -- the end, for a row that is owned
        have fin : ∀ (k0 n : Nat) (B0 : Box) (f : Nat → List V) (v0 : Value) (xs : List Value), aget S.bx k0 = some B0 → w.ownsRow 0 el sz v0 n xs → v0.ownBlock = blkOf (σ k0) → (∀ i, i < n → (f i).length = sz) →
            (∀ (i j : Nat) (r : V), i < n → (f i)[j]? = some r → ∃ u, xs[i * sz + j]? = some u ∧ CD w (badOf E σ S.bx) r u) →
            (n + m) * i.bytes ≤ 140737488355328 ∧ n + m ≤ maxLen →
            ∃ v w', (Builtin.append_ #[t, t] ty #[v0, vx]).run P w = .ok v w' ∧ Good E σ S key a (.ok (.value v) w') dst (.swap k0 (.vec el sz (n + m) (joinF n f g)) (.vec key)) := by
          intro k0 n B0 f v0 xs hk0 hown hblk hl hc hbd
          obtain ⟨v', w', hrun, hown', hg, hat⟩ := run_append_src (ty := ty) htt hi hzv hisz hzs hpos hown hS hbd.1 hbd.2
          refine ⟨v', w', hrun, ?_⟩
          have hsl := own_slice hown'
          have h2 := h.swap (k1 := key) (v1 := v') (B1 := .vec el sz (n + m) (joinF n f g)) hk0 hf (by rw [← hblk]; exact hg) (fun b hb => ?_) (fun hm => ?_)
          · refine ⟨_, v', w', _, rfl, .inl rfl, fresh_mono hf v', fun k hk => ?_, h2.slot ht (.vec v' (by simp))⟩
            show (if k = key then some v' else σ k) = σ k
            rw [if_neg hk]
          · rw [hsl] at hb
            refine ⟨(hown'.lt b hb).2, ?_⟩
            rcases hat with e | e
            · rw [e] at hb; exact .inr (by rw [← hblk]; exact hb)
            · rw [e] at hb; injection hb with hb; exact .inl (by omega)
          · exact brel_join (by simp) hown' hown.1 hl hc hS fun r u hu => hu.mono hm
        split at he
        · -- nil
          injection he with he; injection he with h1 h2; subst h1 h2
          cases hvs with
          | data hd =>
            cases hd
            have hbd := ho.1
            obtain ⟨v', w', hrun, hown', hg, hat⟩ := run_append_src (ty := ty) (n := 0) (xs := []) htt hi hzv hisz hzs hpos (World.ownsRow_nil w 0 el sz) hS (by simpa using hbd.1) (by simpa using hbd.2)
            have hsl := own_slice hown'
            refine ⟨v', w', hrun, Good.new (v1 := v') h ht hf hg (fun b hb => ?_) (fun hm => ?_) (.vec v' (by simp))⟩
            · rw [hsl] at hb
              rcases hat with e | e
              · rw [e] at hb; simp [Value.ownBlock] at hb
              · have := hown'.lt b hb
                rw [e] at hb; injection hb with hb; omega
            · have h3 := brel_join (w := w) (bad := badOf E σ S.bx) (σ1 := fun k => if k = key then some v' else σ k) (bad1 := badOf E (fun k => if k = key then some v' else σ k) (aput S.bx key (.vec el sz m g))) (key := key) (f := fun _ => []) (xs := []) (n := 0)
                (by simp) hown' (by simp) (by simp) (by simp) hS fun r u hu => hu.mono hm
              have hj : joinF 0 (fun _ => []) g = g := by funext i; simp [joinF]
              rw [hj, Nat.zero_add] at h3
              exact h3
        · rename_i k n c
          split at he
          · rename_i ty' l hk
            split at he
            · rename_i hb
              simp only [Bool.and_eq_true, Nat.beq_eq] at hb
              obtain ⟨⟨⟨rfl, hcl⟩, hnc⟩, hld⟩ := hb
              have hnc := Nat.le_of_ble_eq_true hnc
              injection he with he; injection he with h1 h2; subst h1 h2
              obtain ⟨hbd, hcm, _⟩ := ho
              cases h.box k _ (hs.bx _ _ hk) with
              | cells b cs hσ hh hsz' hc =>
                cases hvs with
                | data hd => cases hd
                | row b' hb' =>
                  rw [hσ] at hb'
                  injection hb' with hb'; injection hb' with hb'; injection hb' with hb'; injection hb' with hb'
                  subst hb'
                  have hnl : n * sz ≤ l.length := by rw [← hcl]; exact Nat.mul_le_mul_right sz hnc
                  refine fin k n _ (fun i => (l.drop (i * sz)).take sz) (.slice (some ⟨b, 0, none⟩) n c) (cs.toList.take (n * sz)) (hs.bx _ _ hk) ⟨by simp; omega, .inr ⟨b, c, cs, rfl, Nat.zero_le _, hh, hnc, hcm, by omega, rfl⟩⟩ (by rw [hσ]; rfl) (fun i hi => ?_) (fun i j r hi hr => ?_) hbd
                  · have := mul_lt (j := sz - 1) (sz := sz) hi (by omega)
                    simp; omega
                  · have hj : j < sz := by have := (List.getElem?_eq_some_iff.1 hr).1; simp at this; omega
                    have hlt := mul_lt hi hj
                    rw [List.getElem?_take, if_pos hj, List.getElem?_drop] at hr
                    obtain ⟨u, h1, h2, h3⟩ := hc _ r hr
                    exact ⟨u, by rw [List.getElem?_take, if_pos hlt]; simpa using h1, h2.toD (allD_get hld _ r hr)⟩
            · cases he
          · cases he
        · rename_i k
          split at he
          · rename_i ty' sz' n f hk
            split at he
            · rename_i hb
              simp only [Bool.and_eq_true, Nat.beq_eq] at hb
              obtain ⟨rfl, rfl⟩ := hb
              injection he with he; injection he with h1 h2; subst h1 h2
              have hbd := ho.1
              cases h.box k _ (hs.bx _ _ hk) with
              | vec v0 xs hσ hown hl hc =>
                cases hvs with
                | data hd => cases hd
                | vec v hb' =>
                  rw [hσ] at hb'
                  injection hb' with hb'; subst hb'
                  exact fin k n _ f v0 xs (hs.bx _ _ hk) hown (by rw [hσ, own_slice hown]) hl hc hbd
            · cases he
          · cases he
        · cases he
      · cases he
    · cases he
  · cases he

theorem madeCells_at (z : Value) (sz n : Nat) (hz : z.cells.size = sz) (i j : Nat) (hi : i < n) (hj : j < sz) : (madeCells z.cells (n * sz)).toList[i * sz + j]? = z.cells[j]? := by
  have hlt := mul_lt hi hj
  have h2 : (i * sz + j) % sz = j := by rw [Nat.mul_comm, Nat.mul_add_mod, Nat.mod_eq_of_lt hj]
  simp [madeCells, hlt, hz, h2]
  rw [getElem!_pos z.cells j (by omega), Array.getElem?_eq_getElem (by omega)]

theorem good_makeSlice {t : TypeId} {l c : Operand} {e : Eff} {obs : List Prop} (he : evMakeSlice P V0 key t l c = some (e, obs)) (ho : AllP obs) (hs : Sub V0 S) (h : Rel E σ S a w) (ht : ∀ t, dst = some t → t < S.nt) (hf : σ key = none) :
    ∃ v w', (Instr.makeSlice t (a.eval l) (a.eval c)).run P w = .ok v w' ∧ Good E σ S key a (.ok (.value v) w') dst e := by
  unfold evMakeSlice at he
  split at he
  · rename_i k1 x k2 y el hl hc htt
    split at he
    · rename_i i sz z hi hsz hz
      obtain ⟨i', zv, hi', hzv, hzr⟩ := zeroL_ok (σ := σ) hz w (badOf E σ S.bx)
      rw [hi] at hi'
      injection hi' with hi'; subst hi'
      have hisz : i.size = sz := by simpa [szT, hi] using hsz
      split at he
      · rename_i hb
        simp only [Bool.and_eq_true, Nat.beq_eq] at hb
        obtain ⟨hb, hzd⟩ := hb
        have hzs : zv.cells.size = sz := by rw [hzr.1]; exact hb
        injection he with he; injection he with h1 h2; subst h1 h2
        obtain ⟨⟨hx0, hyx⟩, ⟨hb1, hb2⟩, _⟩ := ho
        subst hyx
        have hvl := evo_ok hs h hl
        have hvc := evo_ok hs h hc
        generalize a.eval l = vl at hvl ⊢
        generalize a.eval c = vc at hvc ⊢
        cases hvl with
        | data hd => cases hd; cases hvc with
          | data hd =>
            cases hd
            obtain ⟨w', hrun, hown, hg⟩ := run_make_full (P := P) w 0 t el i zv sz htt hi hzv hisz k1 k2 y.toNat hb1 hb2 (Nat.zero_le _)
            rw [Int.toNat_of_nonneg hx0] at hrun
            refine ⟨_, w', hrun, Good.new (v1 := .slice (some ⟨w.heap.size, 0, none⟩) y.toNat y.toNat) h ht hf hg (fun b hb' => ?_) (fun hm => ?_) (.vec _ (by simp))⟩
            · simp [blkOf] at hb'
              have := hown.lt _ (show (Value.slice (some ⟨w.heap.size, 0, none⟩) y.toNat y.toNat).ownBlock = some w.heap.size from rfl)
              omega
            · refine .vec _ _ (by simp) hown (fun i _ => hb) fun i j r hi' hr => ?_
              have hj : j < sz := by rw [← hb]; exact (List.getElem?_eq_some_iff.1 hr).1
              obtain ⟨u, h1, h2, h3⟩ := hzr.2 j r hr
              exact ⟨u, by rw [madeCells_at zv sz _ hzs i j hi' hj]; exact h1, (h2.toD (allD_get hzd _ r hr)).mono hm⟩
      · cases he
    · cases he
  · cases he

theorem intMap_new (w : World) : IntMap (w.alloc (.map #[] 0)) w.heap.size 0 (fun _ => none) :=
  ⟨#[], 0, heap_alloc_new w _, rfl, by simp, by simp [intKeys], fun _ => rfl⟩

theorem good_makeMap {t : TypeId} {r : Option Operand} {e : Eff} (he : evMakeMap P key t r = some e) (h : Rel E σ S a w) (ht : ∀ t, dst = some t → t < S.nt) (hf : σ key = none) :
    ∃ v w', (Instr.makeMap t (r.map a.eval)).run P w = .ok v w' ∧ Good E σ S key a (.ok (.value v) w') dst e := by
  have fin : ∀ B, (∀ σ' bad', σ' key = some (.map (some w.heap.size)) → BRel σ' (w.alloc (.map #[] 0)) bad' key B) → Good E σ S key a (.ok (.value (.map (some w.heap.size))) (w.alloc (.map #[] 0))) dst (.new B (.map key)) := by
    intro B hB
    refine Good.new (v1 := .map (some w.heap.size)) h ht hf (World.grownBy_alloc w _ none) (fun b hb => ?_) (fun hm => hB _ _ (by simp)) (.map _ (by simp))
    simp [blkOf] at hb; subst hb; exact ⟨Nat.le_refl _, by simp⟩
  unfold evMakeMap at he
  split at he
  · cases he
  · have hrun : (Instr.makeMap t ((none : Option Operand).map a.eval)).run P w = .ok (.map (some w.heap.size)) (w.alloc (.map #[] 0)) := rfl
    split at he
    · split at he
      · injection he with he; subst he
        exact ⟨_, _, hrun, fin _ fun σ' bad' hk => .mapB _ hk (intMap_new w)⟩
      · injection he with he; subst he
        exact ⟨_, _, hrun, fin _ fun σ' bad' hk => .mapI _ hk (intMap_new w)⟩
      · injection he with he; subst he
        exact ⟨_, _, hrun, fin _ fun σ' bad' hk => .mapF _ hk (intMap_new w)⟩
      · cases he
    · cases he
end
end Go.Hb
