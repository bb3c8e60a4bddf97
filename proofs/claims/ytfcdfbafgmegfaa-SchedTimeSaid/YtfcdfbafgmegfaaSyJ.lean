/-
  THE SYMBOLIC LAYER, PART J: maps from int to bool or int.
-/
import Derived.Test.YtfcdfbafgmegfaaSyI
namespace Go.Hb
open Go.RowKit

def mapN (n : Nat) {α : Type} : Option α → Nat
  | some _ => n
  | none => n + 1

def setM {α : Type} (m : Int → Option α) (i : Int) (x : α) (j : Int) : Option α := if j = i then some x else m j

def zeroOf (P : Program) (t : TypeId) : Option Value :=
  match P.info? t with
  | some i => i.zero
  | none => none

theorem zeroOf_ok {P : Program} {t : TypeId} {z : Value} (h : zeroOf P t = some z) : ∃ i, P.info? t = some i ∧ i.zero = some z := by
  unfold zeroOf at h
  split at h
  · exact ⟨_, by assumption, h⟩
  · cases h

def fnV : Option Nat → V
  | some g => .fn g []
  | none => .nilfn

def evLookup (P : Program) (S : St) (t : TypeId) (m k : Operand) (commaOk : Bool) : Option V :=
  match commaOk, evo S.fr m, evo S.fr k, P.underlying t with
  | false, some (.map q), some (.int .i64 i), some (.map kt et) => match P.underlying kt with
    | some (.int .i64) => match aget S.bx q with
      | some (.mapB _ f) => match zeroOf P et with
        | some (.bool false) => some (.bool ((f i).getD false))
        | _ => none
      | some (.mapI _ f) => match zeroOf P et with
        | some (.int .i64 0) => some (.int .i64 ((f i).getD 0))
        | _ => none
      | some (.mapF _ f) => match zeroOf P et with
        | some .nilFunc => some (fnV (f i))
        | _ => none
      | _ => none
    | _ => none
  | _, _, _, _ => none

def evMapUpdate (P : Program) (S : St) (t : TypeId) (m k x : Operand) : Option Eff :=
  match evo S.fr m, evo S.fr k, P.underlying t with
  | some (.map q), some (.int .i64 i), some (.map kt _) => match P.underlying kt with
    | some (.int .i64) => match aget S.bx q, evo S.fr x with
      | some (.mapB n f), some s => match s.asB with
        | some b => some (.upd q (.mapB (mapN n (f i)) (setM f i b)))
        | none => none
      | some (.mapI n f), some (.int .i64 y) => some (.upd q (.mapI (mapN n (f i)) (setM f i y)))
      | some (.mapF n f), some (.fn g []) => some (.upd q (.mapF (mapN n (f i)) (setM f i g)))
      | _, _ => none
    | _ => none
  | _, _, _ => none

section
variable {P : Program} {E : Env} {σ σ' : Nat → Option Value} {S V0 : St} {a : Act} {w w' : World} {bad : Nat → Prop} {key : Nat} {dst : Option Tmp}

theorem findNow_int (kk : IntKind) (i : Int) : ∀ (l : List MapEntry) (start : Nat), (∀ e ∈ l, ∃ k, e.key = .int .i64 k) →
    ∃ r, Instr.findNow (.int kk) (.int .i64 i) l start = some r ∧ r.map (·.2) = intEntry i l ∧ ∀ j v, r = some (j, v) → start ≤ j ∧ ∃ e, l[j - start]? = some e ∧ e.key = .int .i64 i
  | [], start, _ => ⟨none, rfl, rfl, by simp⟩
  | e :: l, start, h => by
    obtain ⟨k, hk⟩ := h e (by simp)
    by_cases hik : i = k
    · subst hik
      refine ⟨some (start, e.val), by simp [Instr.findNow, Instr.sameNow, hk], by simp [intEntry, hk], fun j v hj => ?_⟩
      simp at hj
      obtain ⟨rfl, _⟩ := hj
      exact ⟨Nat.le_refl _, e, by simp, hk⟩
    · obtain ⟨r, h1, h2, h3⟩ := findNow_int kk i l (start + 1) (fun e' he' => h e' (by simp [he']))
      have hb : (i == k) = false := by simpa using hik
      refine ⟨r, by simp [Instr.findNow, Instr.sameNow, hk, hb, h1], by simp [intEntry, hk, hik, h2], fun j v hj => ?_⟩
      obtain ⟨h4, e', h5, h6⟩ := h3 j v hj
      refine ⟨by omega, e', ?_, h6⟩
      rw [show j - start = (j - (start + 1)) + 1 from by omega]
      simpa using h5

theorem run_checkKey {kt : TypeId} (hk : P.underlying kt = some (.int .i64)) (b : Bool) (i : Int) : (Instr.checkKey b 10000 kt (.int .i64 i)).run P w = .ok () w := by
  have : ∀ n, (Instr.checkKey b (n + 1) kt (.int .i64 i)).run P w = .ok () w := by
    intro n; simp [Instr.checkKey, run_underlying hk]
  exact this 9999

theorem run_getMap {r : Nat} {es : Array MapEntry} {clock : Nat} (h : w.heap[r]? = some (.map es clock)) : (getObj r).run P w = .ok (.map es clock) w := by
  simp [getObj, Sem.run, h]

theorem run_findKey {kt : TypeId} (hk : P.underlying kt = some (.int .i64)) {i : Int} {l : List MapEntry} {r : Option (Nat × Value)} (h : Instr.findNow (.int .i64) (.int .i64 i) l 0 = some r) :
    (Instr.findKey kt (.int .i64 i) l).run P w = .ok r w := by
  simp [Instr.findKey, run_underlying hk, h]

theorem run_lookup_int {t kt et : TypeId} (ht : P.underlying t = some (.map kt et)) (hk : P.underlying kt = some (.int .i64)) {r n : Nat} {val : Int → Option Value} (hm : IntMap w r n val) {i : Int}
    {inf : TypeInfo} {z : Value} (hi : P.info? et = some inf) (hz : inf.zero = some z) :
    (Instr.lookup t (.map (some r)) (.int .i64 i) false).run P w = .ok ((val i).getD z) w := by
  obtain ⟨es, clock, h1, h2, h3, h4, h5⟩ := hm
  obtain ⟨res, h6, h7, _⟩ := findNow_int .i64 i es.toList 0 h3
  rw [h5 i] at h7
  unfold Instr.lookup
  simp only [Sem.run_bind, run_underlying ht, Result.andThen_ok, run_getMap h1, Sem.run_pure, run_checkKey hk, run_findKey hk h6]
  cases res with
  | none =>
    simp at h7
    simp only [Sem.run_bind, run_zeroValue hi hz, Sem.run_pure, Result.andThen_ok]
    rw [← h7]; rfl
  | some p =>
    obtain ⟨j, v⟩ := p
    simp at h7
    rw [← h7]; rfl

theorem run_evLookup {t : TypeId} {m k : Operand} {c : Bool} {r : V} (he : evLookup P V0 t m k c = some r) (hs : Sub V0 S) (h : Rel E σ S a w) :
    ∃ v, (Instr.lookup t (a.eval m) (a.eval k) c).run P w = .ok v w ∧ CV σ w (badOf E σ S.bx) r v := by
  unfold evLookup at he
  split at he
  · rename_i q i kt et hm hk ht
    have hvm := evo_ok hs h hm
    have hvk := evo_ok hs h hk
    generalize a.eval m = vm at hvm ⊢
    generalize a.eval k = vk at hvk ⊢
    cases hvk with
    | data hd =>
      cases hd
      split at he
      · rename_i hkt
        split at he
        · rename_i n f hq
          split at he
          · rename_i hze
            injection he with he; subst he
            obtain ⟨inf, hi, hzz⟩ := zeroOf_ok hze
            cases h.box q _ (hs.bx _ _ hq) with
            | mapB r hσ hm =>
              cases hvm with
              | data hd => cases hd
              | map r' hb =>
                rw [hσ] at hb
                injection hb with hb; injection hb with hb; injection hb with hb; subst hb
                refine ⟨_, run_lookup_int ht hkt hm hi hzz, ?_⟩
                cases f i <;> exact .data .bool
          · cases he
        · rename_i n f hq
          split at he
          · rename_i hze
            injection he with he; subst he
            obtain ⟨inf, hi, hzz⟩ := zeroOf_ok hze
            cases h.box q _ (hs.bx _ _ hq) with
            | mapI r hσ hm =>
              cases hvm with
              | data hd => cases hd
              | map r' hb =>
                rw [hσ] at hb
                injection hb with hb; injection hb with hb; injection hb with hb; subst hb
                refine ⟨_, run_lookup_int ht hkt hm hi hzz, ?_⟩
                cases f i <;> exact .data .int
          · cases he
        · rename_i n f hq
          split at he
          · rename_i hze
            injection he with he; subst he
            obtain ⟨inf, hi, hzz⟩ := zeroOf_ok hze
            cases h.box q _ (hs.bx _ _ hq) with
            | mapF r hσ hm =>
              cases hvm with
              | data hd => cases hd
              | map r' hb =>
                rw [hσ] at hb
                injection hb with hb; injection hb with hb; injection hb with hb; subst hb
                refine ⟨_, run_lookup_int ht hkt hm hi hzz, ?_⟩
                cases f i with
                | none => exact .data .nilfn
                | some g => exact .fn #[] (fun _ => .bool false) rfl (fun j hj => absurd hj (Nat.not_lt_zero j)) (fun j s hj => by simp at hj)
          · cases he
        · cases he
      · cases he
  · cases he

theorem intEntry_modify (i : Int) (x : Value) : ∀ (l : List MapEntry) (j : Nat) (e : MapEntry), l[j]? = some e → e.key = .int .i64 i → (intKeys l).Nodup → (∀ e ∈ l, ∃ k, e.key = .int .i64 k) →
    ∀ k, intEntry k (l.modify j fun e => { e with key := .int .i64 i, val := x }) = if k = i then some x else intEntry k l
  | [], j, e, h, _, _, _ => by simp at h
  | e0 :: l, 0, e, h, he, hn, hk => by
    simp at h; subst h
    intro k
    simp only [List.modify_zero_cons, intEntry, he]
    by_cases hki : k = i
    · simp [hki]
    · simp [hki]
  | e0 :: l, j + 1, e, h, he, hn, hk => by
    intro k
    obtain ⟨k0, hk0⟩ := hk e0 (by simp)
    simp only [List.getElem?_cons_succ] at h
    simp only [intKeys, hk0, List.nodup_cons] at hn
    have ih := intEntry_modify i x l j e h he hn.2 (fun e he => hk e (by simp [he])) k
    simp only [List.modify_succ_cons, intEntry, hk0, ih]
    have hne : k0 ≠ i := by
      rintro rfl
      apply hn.1
      clear ih
      have : ∀ (l : List MapEntry) (j : Nat), l[j]? = some e → k0 ∈ intKeys l := by
        intro l
        induction l with
        | nil => intro j h; simp at h
        | cons e1 l ihl =>
          intro j h
          cases j with
          | zero => simp at h; subst h; simp [intKeys, he]
          | succ j => simp at h; simp [intKeys, ihl j h]
      exact this l j h
    by_cases hki : k = i
    · subst hki
      rw [if_pos rfl, if_neg (fun e => hne e.symm), if_pos rfl]
    · rw [if_neg hki, if_neg hki]

theorem intKeys_modify (i : Int) (x : Value) : ∀ (l : List MapEntry) (j : Nat) (e : MapEntry), l[j]? = some e → e.key = .int .i64 i → intKeys (l.modify j fun e => { e with key := .int .i64 i, val := x }) = intKeys l
  | [], j, e, h, _ => by simp at h
  | e0 :: l, 0, e, h, he => by simp at h; subst h; simp [intKeys, he]
  | e0 :: l, j + 1, e, h, he => by
    simp only [List.getElem?_cons_succ] at h
    simp [intKeys, intKeys_modify i x l j e h he]

theorem intEntry_push (i : Int) (x : Value) (b : Nat) : ∀ (l : List MapEntry), intEntry i l = none → (∀ e ∈ l, ∃ k, e.key = .int .i64 k) → ∀ k, intEntry k (l ++ [{ key := .int .i64 i, val := x, born := b }]) = if k = i then some x else intEntry k l
  | [], _, _ => by
    intro k; by_cases h : k = i <;> simp [intEntry, h]
  | e0 :: l, hn, hk => by
    intro k
    obtain ⟨k0, hk0⟩ := hk e0 (by simp)
    simp only [intEntry, hk0] at hn
    split at hn
    · simp at hn
    · rename_i hne
      have ih := intEntry_push i x b l hn (fun e he => hk e (by simp [he])) k
      simp only [List.cons_append, intEntry, hk0, ih]
      by_cases hki : k = i
      · subst hki; simp [hne]
      · simp [hki]

theorem intKeys_append : ∀ (l m : List MapEntry), intKeys (l ++ m) = intKeys l ++ intKeys m
  | [], m => rfl
  | e :: l, m => by simp [intKeys, intKeys_append l m]

theorem not_mem_keys (i : Int) : ∀ (l : List MapEntry), intEntry i l = none → (∀ e ∈ l, ∃ k, e.key = .int .i64 k) → i ∉ intKeys l
  | [], _, _ => by simp [intKeys]
  | e :: l, h, hk => by
    obtain ⟨k0, hk0⟩ := hk e (by simp)
    simp only [intEntry, hk0] at h
    split at h
    · simp at h
    · rename_i hne
      simp only [intKeys, hk0, List.mem_cons, not_or]
      exact ⟨hne, not_mem_keys i l h (fun e he => hk e (by simp [he]))⟩

theorem run_mapUpdate_int {t kt et : TypeId} (ht : P.underlying t = some (.map kt et)) (hk : P.underlying kt = some (.int .i64)) {r n : Nat} {val : Int → Option Value} (hm : IntMap w r n val) (i : Int) (x : Value) :
    ∃ w', (Instr.mapUpdate t (.map (some r)) (.int .i64 i) x).run P w = .ok () w' ∧ w.grownBy w' (some r) ∧ IntMap w' r (mapN n (val i)) (setM val i x) := by
  obtain ⟨es, clock, h1, h2, h3, h4, h5⟩ := hm
  obtain ⟨res, h6, h7, h8⟩ := findNow_int .i64 i es.toList 0 h3
  rw [h5 i] at h7
  have hlt : r < w.heap.size := (Array.getElem?_eq_some_iff.1 h1).1
  have hset : ∀ o, (setObj r o).run P w = .ok () { w with heap := w.heap.setIfInBounds r o } := by
    intro o; simp [setObj, Sem.run, h1]
  have hg : ∀ o, w.grownBy { w with heap := w.heap.setIfInBounds r o } (some r) := fun o =>
    ⟨rfl, rfl, rfl, by simp, fun k _ hk => by simp only [Array.getElem?_setIfInBounds]; rw [if_neg (fun e => hk (by rw [e]))]⟩
  have hat : ∀ o, ({ w with heap := w.heap.setIfInBounds r o } : World).heap[r]? = some o := fun o => by simp [hlt]
  unfold Instr.mapUpdate
  simp only [Sem.run_bind, run_underlying ht, Result.andThen_ok, run_getMap h1, run_checkKey hk, run_findKey hk h6]
  cases res with
  | none =>
    simp at h7
    refine ⟨_, hset _, hg _, ⟨_, _, hat _, ?_, ?_, ?_, ?_⟩⟩
    · rw [← h7]; simp [mapN, h2]
    · intro e he
      simp only [Array.toList_push, List.mem_append, List.mem_singleton] at he
      rcases he with he | rfl
      · exact h3 e he
      · exact ⟨i, rfl⟩
    · rw [Array.toList_push, intKeys_append]
      simp only [intKeys]
      rw [List.nodup_append]
      refine ⟨h4, by simp, ?_⟩
      intro a ha b hb
      simp at hb; subst hb
      rintro rfl
      exact not_mem_keys a es.toList (by rw [h5]; exact h7.symm) h3 ha
    · intro k
      rw [Array.toList_push, intEntry_push i x clock es.toList (by rw [h5]; exact h7.symm) h3 k]
      unfold setM; rw [h5]
  | some p =>
    obtain ⟨j, v⟩ := p
    simp at h7
    obtain ⟨_, e, he, hek⟩ := h8 j v rfl
    rw [Nat.sub_zero] at he
    have he' : es[j]? = some e := by simpa using he
    have hkeep : (Instr.keyThatStays (((es[j]?).map (·.key)).getD (.int .i64 i)) (.int .i64 i)).run P w = .ok (.int .i64 i) w := by
      simp [Instr.keyThatStays, he', hek, Instr.sameBits]
    simp only [Sem.run_bind, hkeep, Result.andThen_ok]
    refine ⟨_, hset _, hg _, ⟨_, _, hat _, ?_, ?_, ?_, ?_⟩⟩
    · rw [← h7]; simp [mapN, h2]
    · intro e' he'
      rw [Array.toList_modify] at he'
      obtain ⟨q, hq⟩ := List.mem_iff_getElem?.1 he'
      rw [List.getElem?_modify] at hq
      cases hqq : es.toList[q]? with
      | none => rw [hqq] at hq; simp at hq
      | some e0 =>
        rw [hqq] at hq
        by_cases hjq : j = q
        · simp [hjq] at hq; exact ⟨i, by rw [← hq]⟩
        · simp [hjq] at hq; rw [← hq]; exact h3 e0 (List.mem_of_getElem? hqq)
    · rw [Array.toList_modify, intKeys_modify i x es.toList j e he hek]; exact h4
    · intro k
      rw [Array.toList_modify, intEntry_modify i x es.toList j e he hek h4 h3 k]
      unfold setM; rw [h5]

theorem mapN_map {α β : Type} (n : Nat) (o : Option α) (g : α → β) : mapN n (o.map g) = mapN n o := by cases o <;> rfl
theorem setM_map {α β : Type} (m : Int → Option α) (i : Int) (x : α) (g : α → β) : setM (fun j => (m j).map g) i (g x) = fun j => (setM m i x j).map g := by
  funext j; unfold setM; split <;> rfl

theorem good_mapUpdate {t : TypeId} {m k x : Operand} {e : Eff} (he : evMapUpdate P V0 t m k x = some e) (hs : Sub V0 S) (h : Rel E σ S a w) (ht : ∀ t, dst = some t → t < S.nt) :
    ∃ w', (Instr.mapUpdate t (a.eval m) (a.eval k) (a.eval x)).run P w = .ok () w' ∧ Good E σ S key a (.ok .skip w') dst e := by
  unfold evMapUpdate at he
  split at he
  · rename_i q i kt et hm hk htt
    have hvm := evo_ok hs h hm
    have hvk := evo_ok hs h hk
    generalize a.eval m = vm at hvm ⊢
    generalize a.eval k = vk at hvk ⊢
    cases hvk with
    | data hd =>
      cases hd
      split at he
      · rename_i hkt
        split at he
        · rename_i n f s hq hx
          split at he
          · rename_i b hb
            injection he with he; subst he
            have hvx := asB_ok hb (evo_ok hs h hx)
            rw [hvx]
            cases h.box q _ (hs.bx _ _ hq) with
            | mapB r hσ hmm =>
              cases hvm with
              | data hd => cases hd
              | map r' hb' =>
                rw [hσ] at hb'
                injection hb' with hb'; injection hb' with hb'; injection hb' with hb'; subst hb'
                obtain ⟨w', hrun, hg, hm'⟩ := run_mapUpdate_int htt hkt hmm i (.bool b)
                refine ⟨w', hrun, Good.upd h ht (hs.bx _ _ hq) (b0 := r) (by rw [hσ]; rfl) hg fun _ => .mapB r hσ ?_⟩
                rw [mapN_map, setM_map f i b Value.bool] at hm'
                exact hm'
          · cases he
        · rename_i n f y hq hx
          injection he with he; subst he
          have hvx := evo_ok hs h hx
          generalize a.eval x = vx at hvx ⊢
          cases hvx with
          | data hd =>
            cases hd
            cases h.box q _ (hs.bx _ _ hq) with
            | mapI r hσ hmm =>
              cases hvm with
              | data hd => cases hd
              | map r' hb' =>
                rw [hσ] at hb'
                injection hb' with hb'; injection hb' with hb'; injection hb' with hb'; subst hb'
                obtain ⟨w', hrun, hg, hm'⟩ := run_mapUpdate_int htt hkt hmm i (.int .i64 y)
                refine ⟨w', hrun, Good.upd h ht (hs.bx _ _ hq) (b0 := r) (by rw [hσ]; rfl) hg fun _ => .mapI r hσ ?_⟩
                rw [mapN_map, setM_map f i y (Value.int .i64)] at hm'
                exact hm'
        · rename_i n f g hq hx
          injection he with he; subst he
          have hvx := evo_ok hs h hx
          have hvx' : a.eval x = .func (.func g) #[] #[] := by
            generalize a.eval x = vx at hvx
            have key : ∀ vs : Array Value, vs.size = 0 → Value.func (.func g) #[] vs = .func (.func g) #[] #[] := fun vs hvs => by rw [Array.size_eq_zero_iff.1 hvs]
            cases hvx with
            | data hd => cases hd with | fn vs u hvs _ _ => exact key vs hvs
            | fn vs u hvs _ _ => exact key vs hvs
          rw [hvx']
          cases h.box q _ (hs.bx _ _ hq) with
          | mapF r hσ hmm =>
            cases hvm with
            | data hd => cases hd
            | map r' hb' =>
              rw [hσ] at hb'
              injection hb' with hb'; injection hb' with hb'; injection hb' with hb'; subst hb'
              obtain ⟨w', hrun, hg, hm'⟩ := run_mapUpdate_int htt hkt hmm i (.func (.func g) #[] #[])
              refine ⟨w', hrun, Good.upd h ht (hs.bx _ _ hq) (b0 := r) (by rw [hσ]; rfl) hg fun _ => .mapF r hσ ?_⟩
              rw [mapN_map, setM_map f i g fun g => Value.func (.func g) #[] #[]] at hm'
              exact hm'
        · cases he
      · cases he
  · cases he
end
end Go.Hb
