/-
  THE SYMBOLIC LAYER, PART L: 'exec1' is right, calls by contract too.
-/
import Derived.Test.YtfcdfbafgmegfaaSyK
namespace Go.Hb
open Go.RowKit
section
variable {P : Program} {E : Env} {σ σ' : Nat → Option Value} {S V0 : St} {a : Act} {w w' : World} {bad : Nat → Prop} {key : Nat} {dst : Option Tmp}

/-- What goes on behind an operation. -/
def Onward (E : Env) (σ : Nat → Option Value) (S : St) (key : Nat) (K : Act → World → Prop) : Prop :=
  ∀ σ' a' w', Rel E σ' S a' w' → (∀ k, k ≠ key → σ' k = σ k) → K a' w'

theorem wp_of_good {o : Oper} {e : Eff} {K : Act → World → Prop} {Q : Exit → Act → World → Prop} {r : Result Next} (hr : (execOp a.eval o).run P w = r) (g : Good E σ S key a r o.dst e) (hK : Onward E σ (e.app S key o.dst) key K) : o.wp P a w K Q := by
  obtain ⟨n, v, w', σ', rfl, hn, _, hk, hrel⟩ := g
  unfold Oper.wp
  rw [hr]
  rcases hn with rfl | ⟨rfl, rfl⟩
  · rw [Oper.upon_value]; exact hK σ' _ _ hrel hk
  · rw [Oper.upon_skip]; exact hK σ' _ _ hrel hk

theorem Rel.retag {dst : Option Nat} {b : Bool} (h : Rel E σ (S.slot dst (.bool b)) a w) : Rel E σ (S.slot dst (.tt b)) a w := by
  cases dst with
  | none => exact h
  | some t =>
    refine ⟨h.toMem, h.dfs, h.nt, fun u r hr => ?_⟩
    have hr' : aget (aput S.fr t (.tt b)) u = some r := hr
    rw [aget_aput] at hr'
    by_cases hu : u = t
    · rw [if_pos hu] at hr'
      injection hr' with hr'; subst hr'
      obtain ⟨v, hv, hc⟩ := h.fr u (.bool b) (by show aget (aput S.fr t (.bool b)) u = _; rw [aget_aput, if_pos hu])
      refine ⟨v, hv, ?_⟩
      cases hc with
      | data hd => cases hd; exact .data .tt
    · rw [if_neg hu] at hr'
      exact h.fr u r (by show aget (aput S.fr t (.bool b)) u = _; rw [aget_aput, if_neg hu]; exact hr')

/-- The callee's view of a caller's memory. -/
theorem mem_callee (h : Rel E σ S a w) : Mem { w0 := w, bad0 := badOf E σ S.bx, wr := fun _ => False } (fun _ => none) [] w := by
  refine ⟨by simp [aget], by simp [aget], by simp [aget], rfl, rfl, rfl, Nat.le_refl _, fun _ _ _ => rfl, ?_⟩
  rintro b (hb | ⟨k, B, hg, hkb⟩)
  · exact Nat.lt_of_lt_of_le (h.hbad b hb) h.size
  · exact (h.own k B b hg hkb).1

theorem grownBy_of_mem {E : Env} {σ : Nat → Option Value} {bx : List (Nat × Box)} (hw : ∀ b, ¬ E.wr b) (h : Mem E σ bx w') : E.w0.grownBy w' none :=
  ⟨h.os, h.tape, h.output, h.size, fun k hk _ => h.old k hk (hw k)⟩

theorem ltL_split {n : Nat} {l m : List V} (h : V.ltL n (l ++ m) = true) (j : Nat) (s : V) (hj : (l ++ m)[j]? = some s) : V.ltB n s = true := ltL_get h j s hj

theorem wp_call {o : Oper} {c : Call} {f : Operand} {g : FuncId} {caps args : List V} {K : Act → World → Prop} {Q : Exit → Act → World → Prop} (ho : o.op = .call c) (hc : c.callee = .value f) 
    (hf : evo V0.fr f = some (.fn g caps)) (ha : evList V0.fr c.args.toList = some args) (hs : Sub V0 S) (h : Rel E σ S a w)
    (hcall : ∀ vals : Array Value, vals.size = (args ++ caps).length → (∀ (j : Nat) (s : V), (args ++ caps)[j]? = some s → ∃ v, vals[j]? = some v ∧ CV σ w (badOf E σ S.bx) s v) →
      Enters P g ∧ Calls P g vals w fun e w' => ∃ v, e = .returned v ∧ K (a.put o.dst v) w') : o.wp P a w K Q := by
  have hv := evo_ok hs h hf
  obtain ⟨h3, h4⟩ := evList_ok hs h ha
  have harg : ∀ (j : Nat) (s : V), args[j]? = some s → ∃ v, (c.args.map a.eval)[j]? = some v ∧ CV σ w (badOf E σ S.bx) s v := by
    intro j s hj
    obtain ⟨x, hx, hcv⟩ := h4 j s hj
    refine ⟨a.eval x, ?_, hcv⟩
    have : c.args[j]? = some x := by simpa using hx
    simp [this]
  have hlen : (c.args.map a.eval).size = args.length := by rw [h3]; simp
  have key : ∀ vs : Array Value, a.eval f = .func (.func g) #[] vs → vs.size = caps.length → (∀ (j : Nat) (s : V), caps[j]? = some s → ∃ v, vs[j]? = some v ∧ CV σ w (badOf E σ S.bx) s v) → o.wp P a w K Q := by
    intro vs hvs hsz hcap
    obtain ⟨hent, hcalls⟩ := hcall (c.args.map a.eval ++ vs) (by simp [hlen, hsz]) (fun j s hj => by
      rw [List.getElem?_append] at hj
      rw [Array.getElem?_append, hlen]
      by_cases hjl : j < args.length
      · rw [if_pos hjl] at hj ⊢; exact harg j s hj
      · rw [if_neg hjl] at hj ⊢; exact hcap _ s hj)
    have hrun : (execOp a.eval o).run P w = .ok (.enter g (c.args.map a.eval ++ vs)) w := by
      unfold execOp
      simp only [ho, resolve, hc, hvs, Deferred.ofValue, Sem.run_bind, Sem.run_pure, Result.andThen_ok, invoke, Array.empty_append]
      exact hent _ w
    unfold Oper.wp
    rw [hrun, Oper.upon_enter]
    refine hcalls.mono ?_
    rintro e w' ⟨v, rfl, hk⟩
    exact hk
  generalize a.eval f = fv at hv key
  cases hv with
  | data hd => cases hd with
    | fn vs u hsz hvs hd => exact key vs rfl hsz fun j s hj => ⟨u j, hvs j (List.getElem?_eq_some_iff.1 hj).1, .data (hd j s hj)⟩
  | fn vs u hsz hvs hd => exact key vs rfl hsz fun j s hj => ⟨u j, hvs j (List.getElem?_eq_some_iff.1 hj).1, hd j s hj⟩

theorem u8s_get : ∀ {l : List V} {ns : List Int}, u8s l = some ns → ns.length = l.length ∧ ∀ (j : Nat) (n : Int), ns[j]? = some n → l[j]? = some (.int .u8 n)
  | [], ns, h => by simp [u8s] at h; subst h; simp
  | s :: l, ns, h => by
    unfold u8s at h
    split at h
    · rename_i heq; cases heq
    · rename_i x l' heq
      injection heq with e1 e2; subst e1 e2
      split at h
      · rename_i r hr
        injection h with h; subst h
        obtain ⟨h1, h2⟩ := u8s_get hr
        refine ⟨by simp [h1], fun j n hj => ?_⟩
        cases j with
        | zero => simp at hj; subst hj; rfl
        | succ j => simpa using h2 j n (by simpa using hj)
      · cases h
    · cases h

theorem run_evBytes {src dst : TypeId} {x : Operand} {s : V} {obs : List Prop} (he : evBytes P V0 src dst x = some (s, obs)) (ho : AllP obs) (hs : Sub V0 S) (h : Rel E σ S a w) :
    ∃ v, (convert src dst (a.eval x)).run P w = .ok v w ∧ CV σ w (badOf E σ S.bx) s v := by
  unfold evBytes at he
  split at he
  · rename_i e hsrc hdst
    split at he
    · rename_i k off len cap hel hx
      have hv := evo_ok hs h hx
      split at he
      · rename_i ty l hk
        split at he
        · rename_i ns hns
          split at he
          · rename_i hlen
            rw [Nat.beq_eq] at hlen
            injection he with he; injection he with h1 h2; subst h1
            cases h.box k _ (hs.bx _ _ hk) with
            | cells b cs hσ hh hsz hc =>
              generalize a.eval x = y at hv ⊢
              cases hv with
              | data hd => cases hd
              | row b' hb' =>
                rw [hσ] at hb'
                injection hb' with hb'; injection hb' with hb'; injection hb' with hb'; injection hb' with hb'
                subst hb'
                obtain ⟨g1, g2⟩ := u8s_get hns
                refine ⟨_, ?_, .data .str⟩
                rw [run_convert_bytes_string w src dst e _ len cap hsrc hel hdst]
                refine run_bytesToString w _ len cap ns ?_
                have := run_loadCells_list (P := P) w ⟨b, off, none⟩ (ns.map (Value.int .u8)) (fun j v hj => by
                  rw [addr_add]
                  have hj' : j < ns.length := by
                    have := (List.getElem?_eq_some_iff.1 hj).1
                    simpa using this
                  have hg := g2 j ns[j] (List.getElem?_eq_getElem hj')
                  rw [List.getElem?_take, if_pos (by omega), List.getElem?_drop] at hg
                  obtain ⟨u, h3, h4, _⟩ := hc _ _ hg
                  have hu : u = .int .u8 ns[j] := by cases h4 with
                    | data hd => cases hd; rfl
                  have hlt : off + j < cs.size := (Array.getElem?_eq_some_iff.1 h3).1
                  simp [List.getElem?_eq_getElem hj'] at hj
                  rw [← hj, ← hu]
                  have : cs[off + j] = u := by
                    rw [Array.getElem?_eq_getElem hlt] at h3; exact Option.some.inj h3
                  simp [World.cell?, hh, hlt, this])
                simpa [hlen] using this
          · cases he
        · cases he
      · cases he
    · rename_i n f hel hx
      have hv := evo_ok hs h hx
      injection he with he; injection he with h1 h2; subst h1 h2
      obtain ⟨hpos, hf, _⟩ := ho
      have hv := hv.toD rfl
      generalize a.eval x = y at hv ⊢
      cases hv with
      | seq o b off c u hoo hnc hl hc hd =>
        rw [hoo hpos]
        refine ⟨_, ?_, .data .str⟩
        rw [run_convert_bytes_string w src dst e _ n c hsrc hel hdst]
        refine run_bytesToString w _ n c _ ?_
        have := run_loadCells_list (P := P) w ⟨b, off, none⟩ (((List.range n).map fun i => u8At (f i)).map (Value.int .u8)) (fun j v hj => by
          rw [addr_add]
          have hj' : j < n := by
            have := (List.getElem?_eq_some_iff.1 hj).1
            simpa using this
          have h4 := hd j 0 (.int .u8 (u8At (f j))) hj' (by rw [hf j hj']; simp [u8At])
          have hcell := (hc j 0 hj' (by omega)).2
          simp only [Nat.mul_one, Nat.add_zero] at hcell
          rw [hcell]
          simp [hj'] at hj
          rw [← hj]
          generalize u j 0 = z at h4 ⊢
          cases h4; rfl)
        simpa using this
    · cases he
  · cases he

theorem exec0_ok {o : Oper} {ans : An} {e : Eff} {obs : List Prop} {K : Act → World → Prop} {Q : Exit → Act → World → Prop} (he : exec0 P key ans o.op V0 = some (e, obs)) (ho : AllP obs) (hs : Sub V0 S) (h : Rel E σ S a w)
    (ht : ∀ t, o.dst = some t → t < S.nt) (hf : σ key = none) (hK : Onward E σ (e.app S key o.dst) key K) : o.wp P a w K Q := by
  have plain : ∀ {op : Op} {e : Eff} {obs : List Prop}, o.op = op → (match evR P V0 op ans.toAns with | some (s, obs) => some (Eff.val s, obs) | none => none) = some (e, obs) → AllP obs → Onward E σ (e.app S key o.dst) key K → o.wp P a w K Q := by
    intro op e obs hop he ho hK
    split at he
    · rename_i s obs' hr
      injection he with he; injection he with h1 h2; subst h1 h2
      rw [← hop] at hr
      obtain ⟨v, hrun, hc⟩ := evR_ok hr ho hs h
      exact wp_of_good hrun (Good.val h ht hc) hK
    · cases he
  unfold exec0 at he
  split at he
  · rename_i t hop
    split at he
    · rename_i e' hq
      injection he with he; injection he with h1 h2; subst h1
      obtain ⟨v, w', hrun, hg⟩ := good_alloc (a := a) hq h ht hf
      refine wp_of_good ?_ hg hK
      unfold execOp; simp only [hop, Sem.run_bind, hrun, Result.andThen_ok]; rfl
    · cases he
  · rename_i t x hop
    split at he
    · rename_i e' hq
      injection he with he; injection he with h1 h2; subst h1
      obtain ⟨v, w', hrun, hg⟩ := good_box (P := P) hq hs h ht hf
      refine wp_of_good ?_ hg hK
      unfold execOp; simp only [hop, Sem.run_bind, hrun, Result.andThen_ok]; rfl
    · cases he
  · rename_i t ps hop
    split at he
    · rename_i s hq
      injection he with he; injection he with h1 h2; subst h1
      obtain ⟨v, hrun, hc⟩ := run_evBuild hq hs h
      refine wp_of_good ?_ (Good.val h ht hc) hK
      unfold execOp; simp only [hop, Sem.run_bind, hrun, Result.andThen_ok]; rfl
    · cases he
  · rename_i t n ps hop
    split at he
    · rename_i e' hq
      injection he with he; injection he with h1 h2; subst h1
      obtain ⟨v, w', hrun, hg⟩ := good_buildSlice hq hs h ht hf
      refine wp_of_good ?_ hg hK
      unfold execOp; simp only [hop, Sem.run_bind, hrun, Result.andThen_ok]; rfl
    · cases he
  · rename_i t x v hop
    obtain ⟨w', hrun, hg⟩ := good_store (key := key) he ho hs h ht
    refine wp_of_good ?_ hg hK
    unfold execOp; simp only [hop, Sem.run_bind, hrun, Result.andThen_ok]; rfl
  · rename_i t l c hop
    obtain ⟨v, w', hrun, hg⟩ := good_makeSlice he ho hs h ht hf
    refine wp_of_good ?_ hg hK
    unfold execOp; simp only [hop, Sem.run_bind, hrun, Result.andThen_ok]; rfl
  · rename_i t r hop
    split at he
    · rename_i e' hq
      injection he with he; injection he with h1 h2; subst h1
      obtain ⟨v, w', hrun, hg⟩ := good_makeMap hq h ht hf
      refine wp_of_good ?_ hg hK
      unfold execOp; simp only [hop, Sem.run_bind, hrun, Result.andThen_ok]; rfl
    · cases he
  · rename_i t m k c hop
    split at he
    · rename_i s hq
      obtain ⟨v, hrun, hc⟩ := run_evLookup hq hs h
      split at he
      · injection he with he; injection he with h1 h2; subst h1; subst h2
        obtain rfl := ho.1
        refine wp_of_good ?_ (Good.val h ht hc) hK
        unfold execOp; simp only [hop, Sem.run_bind, hrun, Result.andThen_ok]; rfl
      · injection he with he; injection he with h1 h2; subst h1
        refine wp_of_good ?_ (Good.val h ht hc) hK
        unfold execOp; simp only [hop, Sem.run_bind, hrun, Result.andThen_ok]; rfl
    · cases he
  · rename_i t m k x hop
    split at he
    · rename_i e' hq
      injection he with he; injection he with h1 h2; subst h1
      obtain ⟨w', hrun, hg⟩ := good_mapUpdate (key := key) hq hs h ht
      refine wp_of_good ?_ hg hK
      unfold execOp; simp only [hop, Sem.run_bind, hrun, Result.andThen_ok]; rfl
    · cases he
  · rename_i t m k x hop
    split at he
    · rename_i e' hq
      injection he with he; injection he with h1 h2; subst h1
      obtain ⟨w', hrun, hg⟩ := good_mapUpdate (key := key) hq hs h ht
      refine wp_of_good ?_ hg hK
      unfold execOp; simp only [hop, Sem.run_bind, hrun, Result.andThen_ok]; rfl
    · cases he
  · rename_i src dst x hop
    split at he
    · rename_i s obs' hq
      injection he with he; injection he with h1 h2; subst h1 h2
      obtain ⟨v, hrun, hc⟩ := run_evBytes hq ho hs h
      refine wp_of_good ?_ (Good.val h ht hc) hK
      unfold execOp; simp only [hop, Sem.run_bind, hrun, Result.andThen_ok]; rfl
    · exact plain hop he ho hK
  · rename_i c hop
    split at he
    · rename_i f hc
      split at he
      · rename_i fv args hfv hargs
        unfold evCall at he
        split at he
        · rename_i g caps
          split at he
          · rename_i hlt
            have hcv : ∀ (vals : Array Value), (∀ (j : Nat) (s : V), (args ++ caps)[j]? = some s → ∃ v, vals[j]? = some v ∧ CV σ w (badOf E σ S.bx) s v) →
                ∀ (j : Nat) (s : V), (args ++ caps)[j]? = some s → ∃ v, vals[j]? = some v ∧ CV (fun _ => none) w (badOf { w0 := w, bad0 := badOf E σ S.bx, wr := fun _ => False } (fun _ => none) []) s v := by
              intro vals hvals j s hj
              obtain ⟨v, hv, hcv⟩ := hvals j s hj
              refine ⟨v, hv, ?_⟩
              refine (hcv.restrict (n := 0) (σ' := fun _ => none) (fun k v hk _ => absurd hk (Nat.not_lt_zero k)) (ltL_get hlt j s hj)).mono (fun _ _ h => h) fun b _ hn => ⟨?_, rfl⟩
              rintro (hb | ⟨k, B, hg, _⟩)
              · exact hn hb
              · simp [aget] at hg
            have hmc := mem_callee h
            split at he
            · rename_i r
              split at he
              · rename_i hr
                injection he with he; injection he with h1 h2; subst h1 h2
                obtain ⟨hent, hspec⟩ := ho.1
                refine wp_call hop hc hfv hargs hs h fun vals hsz hvals => ⟨hent, ?_⟩
                refine (hspec { w0 := w, bad0 := badOf E σ S.bx, wr := fun _ => False } (fun _ => none) vals hmc (fun _ _ => rfl) hsz (hcv vals hvals)).mono ?_
                rintro e w' ⟨v, σ', rfl, _, hcr, hm⟩
                refine ⟨v, rfl, ?_⟩
                have hgr := grownBy_of_mem (fun _ h => h) hm
                have hcr' : CV σ w' (badOf E σ S.bx) r v := (hcr.restrict (n := 0) (σ' := σ) (fun k v hk _ => absurd hk (Nat.not_lt_zero k)) hr).mono (fun _ _ h => h) fun b _ hn => ⟨fun hb => hn (.inl hb), rfl⟩
                exact hK σ _ _ ((h.grown hgr).slot ht hcr') (fun _ _ => rfl)
              · cases he
            · rename_i ty sz n q
              injection he with he; injection he with h1 h2; subst h1 h2
              obtain ⟨hent, hspec⟩ := ho.1
              refine wp_call hop hc hfv hargs hs h fun vals hsz hvals => ⟨hent, ?_⟩
              refine (hspec { w0 := w, bad0 := badOf E σ S.bx, wr := fun _ => False } (fun _ => none) vals hmc (fun _ _ => rfl) hsz (hcv vals hvals)).mono ?_
              rintro e w' ⟨v, σ', rfl, _, hcr, hm⟩
              refine ⟨v, rfl, ?_⟩
              have hgr := grownBy_of_mem (fun _ h => h) hm
              cases hcr with
              | data hd => cases hd
              | vec v hv =>
                have hbox := hm.box 0 (.vec ty sz n q) rfl
                cases hbox with
                | vec v0 xs hk0 hown hl hcc =>
                  rw [hk0] at hv
                  injection hv with hv; subst hv
                  obtain ⟨n', v', w'', σ'', hr1, hn, _, hkk, hrel⟩ := Good.new (dst := o.dst) (B := .vec ty sz n q) (s := .vec key) (v := v0) (v1 := v0) h ht hf hgr (fun b hb => by
                      have hb' : blkOf (σ' 0) = some b := by rw [hk0]; exact hb
                      have h3 := hm.own 0 (.vec ty sz n q) b rfl hb'
                      refine ⟨?_, h3.1⟩
                      rcases h3.2.2 with h4 | h4
                      · exact h4
                      · exact h4.elim) (fun hmm => by
                      refine .vec v0 xs (by simp) hown hl fun i j s hi hs' => ?_
                      obtain ⟨x, hx, hcd⟩ := hcc i j s hi hs'
                      refine ⟨x, hx, hcd.mono fun b hbl hn => ⟨?_, rfl⟩⟩
                      rintro (hb | ⟨k, B, hg, hkb⟩)
                      · exact hn (.inl (.inl hb))
                      · rw [aget_aput] at hg
                        by_cases hkk : k = key
                        · subst hkk
                          simp only [if_true] at hkb
                          exact hn (.inr ⟨0, .vec ty sz n q, rfl, by rw [hk0]; exact hkb⟩)
                        · rw [if_neg hkk] at hg
                          simp only [if_neg hkk] at hkb
                          exact hn (.inl (.inr ⟨k, B, hg, hkb⟩))) (.vec v0 (by simp))
                  injection hr1 with hr1 hr2
                  subst hr2
                  rcases hn with hn | ⟨hn, _⟩
                  · rw [← hr1] at hn
                    injection hn with hn; subst hn
                    exact hK σ'' _ _ hrel hkk
                  · rw [← hr1] at hn; cases hn
            · cases he
          · cases he
        · cases he
      · cases he
    · rename_i hc
      split at he
      · rename_i x y t t' hxs hts
        split at he
        · rename_i s r hb hx hy
          rw [Nat.beq_eq] at hb; subst hb
          obtain ⟨v, w', hrun, hg⟩ := good_append (ty := o.type) he ho hs h ht hf (evo_ok hs h hx) (evo_ok hs h hy)
          refine wp_of_good ?_ hg hK
          have hargs : c.args.map a.eval = #[a.eval x, a.eval y] := by
            rw [← Array.toArray_toList (xs := c.args), hxs]; simp
          have htys : c.argTypes = #[t, t] := by rw [← Array.toArray_toList (xs := c.argTypes), hts]
          unfold execOp
          simp only [hop, resolve, hc, Sem.run_bind, Sem.run_pure, Result.andThen_ok, invoke, builtin, hargs, htys, hrun]
        · cases he
      · cases he
    · exact plain hop he ho hK
    · cases he
  · exact plain rfl he ho hK

theorem exec1_ok {o : Oper} {ans : An} {e : Eff} {obs : List Prop} {K : Act → World → Prop} {Q : Exit → Act → World → Prop} (he : exec1 P key ans o.op V0 = some (e, obs)) (ho : AllP obs) (hs : Sub V0 S) (h : Rel E σ S a w)
    (ht : ∀ t, o.dst = some t → t < S.nt) (hf : σ key = none) (hK : Onward E σ (e.app S key o.dst) key K) : o.wp P a w K Q := by
  unfold exec1 at he
  split at he
  · rename_i b obs' h0
    split at he
    · rename_i β
      injection he with he; injection he with h1 h2; subst h1 h2
      obtain ⟨hb, ho'⟩ := ho
      subst hb
      exact exec0_ok h0 ho' hs h ht hf fun σ' a' w' hr hk => hK σ' a' w' hr.retag hk
    · injection he with he; injection he with h1 h2; subst h1 h2
      exact exec0_ok h0 ho hs h ht hf hK
  · exact exec0_ok he ho hs h ht hf hK
end
end Go.Hb
