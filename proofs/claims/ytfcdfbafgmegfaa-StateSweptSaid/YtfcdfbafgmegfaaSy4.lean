/-
  THE SYMBOLIC LAYER, PART T: running on to the next loop's head or the end ('run'), from the start or from a loop's head ('segAt', 'segEnd', 'segVec').
-/
import Derived.Test.YtfcdfbafgmegfaaSy3
import Derived.ChangeKeysEq
import Derived.Laws.StructEq
import Derived.OpenShut
import Derived.JoinedOf
import Derived.SizedLaws
namespace Go.Hb
open Go.RowKit

inductive Out where
  | done (S : St)
  | at (todo : List Item) (S : St)

def getL {α : Type} (l : List (Nat × List α)) (n : Nat) : List α :=
  match aget l n with
  | some l => l
  | none => []

/-- On to the next loop's head, or the end. 'pre': what is done to the state ahead of a region; 'sc': for each region its operations' answers; 'stop': regions to stop at. -/
def run (P : Program) (m : Nat) (pre : List (Nat × List Pre)) (sc : List (Nat × List (Nat × An))) (stop : List Nat) : Nat → List Item → St → Option (Out × List Prop)
  | 0, _, _ => none
  | n + 1, todo, S => match todo with
    | [] => some (.done S, [])
    | .code .ret :: _ => some (.done S, [])
    | .code .skip :: k => run P m pre sc stop n k S
    | .inBlock _ :: k => run P m pre sc stop n k S
    | .code (.seq a b) :: k => run P m pre sc stop n (.code a :: .code b :: k) S
    | .code (.cond c x y) :: k => match evo S.fr c with
      | some (.tt true) => run P m pre sc stop n (.code x :: k) S
      | some (.tt false) => run P m pre sc stop n (.code y :: k) S
      | _ => none
    | .code (.block id c) :: k => run P m pre sc stop n (.code c :: .inBlock id :: k) S
    | .code (.loop c) :: k => some (.at (.code c :: .inLoop c :: k) S, [])
    | .inLoop c :: k => some (.at (.code c :: .inLoop c :: k) S, [])
    | .code (.exit id) :: k => match exitTo id k with
      | some k' => run P m pre sc stop n k' S
      | none => none
    | .code (.region id ops draw) :: k => match memB id stop with
      | true => some (.at (.code (.region id ops draw) :: k) S, [])
      | false => match pres P m (getL pre id) S with
        | some S => match region P S.nx ops draw (getL sc id) S with
          | some (S', obs) => match run P m pre sc stop n k S' with
            | some (out, obs') => some (out, obs ++ obs')
            | none => none
          | none => none
        | none => none
    | _ => none

section
variable {P : Program} {f : FuncId} {m : Nat} {res : V} {bx1 : List (Nat × Box)} {E : Env} {σ σ' : Nat → Option Value} {S S' : St} {a : Act} {w : World}

def Next (P : Program) (f : FuncId) (m : Nat) (res : V) (bx1 : List (Nat × Box)) : Out → Prop
  | .done S => Fin P f m res bx1 S
  | .at todo S => GoTo P f m res bx1 todo S

theorem run_ok (hm : P.follows .mixedOrders = true) {pre : List (Nat × List Pre)} {sc : List (Nat × List (Nat × An))} {stop : List Nat} : ∀ {n : Nat} {todo : List Item} {S : St} {out : Out} {obs : List Prop}, run P m pre sc stop n todo S = some (out, obs) → AllP obs → Next P f m res bx1 out → GoTo P f m res bx1 todo S
  | 0, _, _, _, _, h, _, _ => by simp [run] at h
  | n + 1, todo, S, out, obs, h, ho, hn => by
    unfold run at h
    split at h
    · injection h with h; injection h with h1 h2; subst h1
      exact GoTo.fin (fun b a cs w => ⟨[], step_end⟩) hn
    · injection h with h; injection h with h1 h2; subst h1
      exact GoTo.fin (fun b a cs w => ⟨_, step_ret⟩) hn
    · exact GoTo.onto (fun b a cs w => step_skip) (run_ok hm h ho hn)
    · exact GoTo.onto (fun b a cs w => step_inBlock) (run_ok hm h ho hn)
    · exact GoTo.onto (fun b a cs w => step_seq) (run_ok hm h ho hn)
    · rename_i c x y k
      have hcond : ∀ t, evo S.fr c = some (.tt t) → GoTo P f m res bx1 (.code (if t then x else y) :: k) S → GoTo P f m res bx1 (.code (.cond c x y) :: k) S := by
        intro t hc hg E σ a w b cs hb hk hr hf hnx
        have hv := evo_ok (Sub.refl S) hr hc
        have hv' : a.eval c = .bool t := by
          generalize a.eval c = v at hv
          cases hv with
          | data hd => cases hd; rfl
        obtain ⟨e, w', fr, h1, h2⟩ := hg E σ a w b cs hb hk hr hf hnx
        exact ⟨e, w', fr, h1.of_steps (.one (step_cond hv')), h2⟩
      split at h
      · rename_i hc
        exact hcond true hc (run_ok hm h ho hn)
      · rename_i hc
        exact hcond false hc (run_ok hm h ho hn)
      · cases h
    · exact GoTo.onto (fun b a cs w => step_block) (run_ok hm h ho hn)
    · injection h with h; injection h with h1 h2; subst h1
      exact GoTo.onto (fun b a cs w => step_loop) hn
    · injection h with h; injection h with h1 h2; subst h1
      exact GoTo.onto (fun b a cs w => step_inLoop) hn
    · rename_i id k
      split at h
      · rename_i k' hex
        exact GoTo.onto (fun b a cs w => step_exit hex) (run_ok hm h ho hn)
      · cases h
    · rename_i id ops draw k
      split at h
      · injection h with h; injection h with h1 h2; subst h1; exact hn
      · split at h
        · rename_i S0 hpre
          refine GoTo.pres hpre ?_
          split at h
          · rename_i S1 obs1 hreg
            split at h
            · rename_i out1 obs2 hrun
              injection h with h; injection h with h1 h2; subst h1 h2
              obtain ⟨ho1, ho2⟩ := allP_append.1 ho
              intro E σ a w b cs hb hk hr hf hnx
              obtain ⟨e0, a1, w1, ⟨rfl, σ1, hr1, hlt, hge⟩, harr⟩ := wp_region_sym (id := id) hm hreg ho1 hr hf b k cs
              have hnx1 := region_nx hreg
              obtain ⟨e, w', fr, h1, h2, h3, v, σ', h4, h5, h6⟩ := run_ok hm hrun ho2 hn E σ1 a1 w1 b cs hb hk hr1 (by rw [hnx1]; exact hge) (by omega)
              exact ⟨e, w', fr, h1.of_steps harr, h2, h3, v, σ', h4, fun q hq => by rw [h5 q hq, hlt q (by omega)], h6⟩
            · cases h
          · cases h
        · cases h
    · cases h

/-- To the next loop's head, of which some slots and boxes are told. -/
def segAt (P : Program) (m : Nat) (pre : List (Nat × List Pre)) (sc : List (Nat × List (Nat × An))) (stop : List Nat) (ps : List Pre) (nx : Nat) (fs : List Nat) (R : List (Nat × Nat)) (todo : List Item) (S : St) : Option (List Item × St × List Prop) :=
  match run P m pre sc stop 10000 todo S with
  | some (.at todo' S1, obs) => match pres P m ps S1 with
    | some S2 => match sel m nx fs R S2 with
      | some S3 => some (todo', S3, obs)
      | none => none
    | none => none
  | _ => none

theorem GoTo.segAt (hm : P.follows .mixedOrders = true) {pre : List (Nat × List Pre)} {sc : List (Nat × List (Nat × An))} {stop : List Nat} {ps : List Pre} {nx : Nat} {fs : List Nat} {R : List (Nat × Nat)} {todo todo' : List Item} {obs : List Prop}
    (he : segAt P m pre sc stop ps nx fs R todo S = some (todo', S', obs)) (ho : AllP obs) (h : GoTo P f m res bx1 todo' S') : GoTo P f m res bx1 todo S := by
  unfold Hb.segAt at he
  split at he
  · rename_i todo1 S1 obs1 hrun
    split at he
    · rename_i S2 h2
      split at he
      · rename_i S3 h3
        injection he with he; injection he with e1 he; injection he with e2 e3
        subst e1 e2 e3
        exact run_ok hm hrun ho (show GoTo P f m res bx1 _ S1 from GoTo.pres h2 (GoTo.sel h3 h))
      · cases he
    · cases he
  · cases he

/-- To the end, with plain data. -/
def segEnd (P : Program) (fn : Func) (pre : List (Nat × List Pre)) (sc : List (Nat × List (Nat × An))) (ps : List Pre) (todo : List Item) (S : St) : Option (V × List Prop) :=
  match run P 0 pre sc [] 10000 todo S with
  | some (.done S1, obs) => match pres P 0 ps S1 with
    | some S2 => match evRes P S2 fn.results.toList with
      | some rs => some (packRes rs, obs)
      | none => none
    | none => none
  | _ => none

theorem Fin.pres : ∀ {l : List Pre} {S S' : St}, Hb.pres P 0 l S = some S' → Fin P f 0 res bx1 S' → Fin P f 0 res bx1 S
  | [], S, S', he, h => by simp [Hb.pres] at he; subst he; exact h
  | p :: l, S, S', he, h => by
    unfold Hb.pres at he
    split at he
    · rename_i S1 hp h1
      obtain ⟨fn, hfn, h2⟩ := Fin.pres he h
      refine ⟨fn, hfn, fun E σ a w hr hf hnx => ?_⟩
      obtain ⟨σ1, g1, g2, g3, g4⟩ := pre1_rel h1 hr
      obtain ⟨v, σ', k1, k2, k3⟩ := h2 E σ1 a w g1 (fun k hk => g2 k (hf k (by omega))) (by omega)
      exact ⟨v, σ', k1, fun k hk => absurd hk (Nat.not_lt_zero k), k3⟩
    · cases he

theorem GoTo.segEnd (hm : P.follows .mixedOrders = true) {fn : Func} (hf : P.funcs[f]? = some fn) {pre : List (Nat × List Pre)} {sc : List (Nat × List (Nat × An))} {ps : List Pre} {todo : List Item} {r : V} {obs : List Prop}
    (he : segEnd P fn pre sc ps todo S = some (r, obs)) (ho : AllP obs) (hle : Le r res) : GoTo P f 0 res [] todo S := by
  unfold Hb.segEnd at he
  split at he
  · rename_i S1 obs1 hrun
    split at he
    · rename_i S2 h2
      split at he
      · rename_i rs h3
        injection he with he; injection he with e1 e2
        subst e1 e2
        exact run_ok hm hrun ho (show Fin P f 0 res [] S1 from Fin.pres h2 (fin_of (obs := []) hf h3 hle rfl trivial))
      · cases he
    · cases he
  · cases he

/-- To the end, with a row of one's own. -/
def segVec (P : Program) (fn : Func) (pre : List (Nat × List Pre)) (sc : List (Nat × List (Nat × An))) (ps : List Pre) (todo : List Item) (S : St) : Option (Box × List Prop) :=
  match run P 0 pre sc [] 10000 todo S with
  | some (.done S1, obs) => match pres P 0 ps S1 with
    | some S2 => match evRes P S2 fn.results.toList with
      | some [.vec k] => match aget S2.bx k with
        | some B => some (B, obs)
        | none => none
      | _ => none
    | none => none
  | _ => none

theorem GoTo.segVec (hm : P.follows .mixedOrders = true) {fn : Func} (hf : P.funcs[f]? = some fn) {pre : List (Nat × List Pre)} {sc : List (Nat × List (Nat × An))} {ps : List Pre} {todo : List Item} {obs : List Prop} {ty sz n n' : Nat} {g g' : Nat → List V}
    (he : segVec P fn pre sc ps todo S = some (.vec ty sz n g, obs)) (ho : AllP obs) (hn : n = n') (hg : ∀ i, i < n → g i = g' i) : GoTo P f 0 (.vec 0) [(0, .vec ty sz n' g')] todo S := by
  unfold Hb.segVec at he
  split at he
  · rename_i S1 obs1 hrun
    split at he
    · rename_i S2 h2
      split at he
      · rename_i k h3
        split at he
        · rename_i B h4
          injection he with he; injection he with e1 e2
          subst e1 e2
          exact run_ok hm hrun ho (show Fin P f 0 _ _ S1 from Fin.pres h2 (fin_vec hf h3 h4 hn hg))
        · cases he
      · cases he
    · cases he
  · cases he

/-- From this point on the function hands back data of which Q holds. -/
def GoToE (P : Program) (f : FuncId) (Q : V → Prop) (todo : List Item) (S : St) : Prop := ∃ res, Q res ∧ GoTo P f 0 res [] todo S
/-- Likewise a row of its own. -/
def GoToV (P : Program) (f : FuncId) (ty sz : Nat) (Q : Nat → (Nat → List V) → Prop) (todo : List Item) (S : St) : Prop := ∃ n g, Q n g ∧ GoTo P f 0 (.vec 0) [(0, .vec ty sz n g)] todo S

theorem GoToE.segAt (hm : P.follows .mixedOrders = true) {Q : V → Prop} {pre : List (Nat × List Pre)} {sc : List (Nat × List (Nat × An))} {stop : List Nat} {ps : List Pre} {nx : Nat} {fs : List Nat} {R : List (Nat × Nat)} {todo todo' : List Item} {obs : List Prop}
    (he : Hb.segAt P 0 pre sc stop ps nx fs R todo S = some (todo', S', obs)) (ho : AllP obs) (h : GoToE P f Q todo' S') : GoToE P f Q todo S :=
  let ⟨r, hq, h⟩ := h
  ⟨r, hq, h.segAt hm he ho⟩
theorem GoToE.segEnd (hm : P.follows .mixedOrders = true) {Q : V → Prop} {fn : Func} (hf : P.funcs[f]? = some fn) {pre : List (Nat × List Pre)} {sc : List (Nat × List (Nat × An))} {ps : List Pre} {todo : List Item} {r : V} {obs : List Prop}
    (he : Hb.segEnd P fn pre sc ps todo S = some (r, obs)) (ho : AllP obs) (hq : Q r) : GoToE P f Q todo S :=
  ⟨r, hq, .segEnd hm hf he ho (Le.refl r)⟩
theorem GoToV.segAt (hm : P.follows .mixedOrders = true) {ty sz : Nat} {Q : Nat → (Nat → List V) → Prop} {pre : List (Nat × List Pre)} {sc : List (Nat × List (Nat × An))} {stop : List Nat} {ps : List Pre} {nx : Nat} {fs : List Nat} {R : List (Nat × Nat)} {todo todo' : List Item} {obs : List Prop}
    (he : Hb.segAt P 0 pre sc stop ps nx fs R todo S = some (todo', S', obs)) (ho : AllP obs) (h : GoToV P f ty sz Q todo' S') : GoToV P f ty sz Q todo S :=
  let ⟨n, g, hq, h⟩ := h
  ⟨n, g, hq, h.segAt hm he ho⟩
theorem GoToV.segVec (hm : P.follows .mixedOrders = true) {Q : Nat → (Nat → List V) → Prop} {fn : Func} (hf : P.funcs[f]? = some fn) {pre : List (Nat × List Pre)} {sc : List (Nat × List (Nat × An))} {ps : List Pre} {todo : List Item} {obs : List Prop} {ty sz n : Nat} {g : Nat → List V}
    (he : Hb.segVec P fn pre sc ps todo S = some (.vec ty sz n g, obs)) (ho : AllP obs) (hq : Q n g) : GoToV P f ty sz Q todo S :=
  ⟨n, g, hq, .segVec hm hf he ho rfl fun _ _ => rfl⟩

/-- Own boxes handed over: from this point on the function hands back a result, and leaves the boxes, of which Q holds. -/
def GoToM (P : Program) (f : FuncId) (m : Nat) (Q : V → List (Nat × Box) → Prop) (todo : List Item) (S : St) : Prop := ∃ res bx1, Q res bx1 ∧ GoTo P f m res bx1 todo S

mutual
/-- The keys that a value names. -/
def V.keys : V → List Nat
  | .agg l => V.keysL l
  | .tup l => V.keysL l
  | .fn _ l => V.keysL l
  | .ptr k _ => [k]
  | .row k _ _ _ => [k]
  | .vec k => [k]
  | .vptr k _ _ _ => [k]
  | .map k => [k]
  | .tail k _ _ => [k]
  | _ => []
def V.keysL : List V → List Nat
  | [] => []
  | s :: l => V.keys s ++ V.keysL l
end
def Box.keys : Box → List Nat
  | .cells _ l => V.keysL l
  | _ => []
/-- The keys that are reached, each once, in order. -/
def reachK (bx : List (Nat × Box)) : Nat → List Nat → List Nat → List Nat
  | 0, _, acc => acc
  | _ + 1, [], acc => acc
  | n + 1, k :: l, acc => match memB k acc with
    | true => reachK bx n l acc
    | false => match aget bx k with
      | some B => reachK bx n (l ++ Box.keys B) (acc ++ [k])
      | none => reachK bx n l (acc ++ [k])
def upK : Nat → List Nat
  | 0 => []
  | n + 1 => upK n ++ [n]
def pickB (bx : List (Nat × Box)) : List Nat → List (Nat × Box)
  | [] => []
  | k :: l => match aget bx k with
    | some B => (k, B) :: pickB bx l
    | none => pickB bx l
theorem pickB_get {bx : List (Nat × Box)} : ∀ {l : List Nat} {k : Nat} {B : Box}, aget (pickB bx l) k = some B → aget bx k = some B
  | [], _, _, h => by simp [pickB, aget] at h
  | q :: l, k, B, h => by
    unfold pickB at h
    split at h
    · rename_i C hC
      simp only [aget] at h
      split at h
      · rename_i hb
        rw [Nat.beq_eq] at hb; subst hb
        rw [hC]; exact h
      · exact pickB_get h
    · exact pickB_get h

theorem fin_keep {fn : Func} {rs : List V} (hf : P.funcs[f]? = some fn) (h : evRes P S fn.results.toList = some rs) (hsub : ∀ k B, aget bx1 k = some B → aget S.bx k = some B) : Fin P f m (packRes rs) bx1 S := by
  refine ⟨fn, hf, fun E σ a w hr hff hnx => ?_⟩
  obtain ⟨v, h1, h2⟩ := packRes_run h hr
  have hbad : ∀ b, ¬ badOf E σ S.bx b → ¬ badOf E σ bx1 b := by
    intro b hn
    rintro (h0 | ⟨k, B, hg, hkb⟩)
    · exact hn (.inl h0)
    · exact hn (.inr ⟨k, B, hsub k B hg, hkb⟩)
  have hmono : ∀ b, b < w.heap.size → ¬ badOf E σ S.bx b → ¬ badOf E σ bx1 b ∧ w.heap[b]? = w.heap[b]? := fun b _ hn => ⟨hbad b hn, rfl⟩
  exact ⟨v, σ, h1, fun _ _ => rfl, h2.mono (fun _ _ h => h) hmono, ⟨fun k B hg => (hr.box k B (hsub k B hg)).mono (fun _ _ h => h) hmono (fun _ _ => rfl), fun k B b hg hkb => hr.own k B b (hsub k B hg) hkb,
    fun k k' B B' b hg hg' hkb hkb' => hr.dist k k' B B' b (hsub k B hg) (hsub k' B' hg') hkb hkb', hr.os, hr.tape, hr.output, hr.size, hr.old, hr.hbad⟩⟩

def segOwn (P : Program) (fn : Func) (m : Nat) (pre : List (Nat × List Pre)) (sc : List (Nat × List (Nat × An))) (todo : List Item) (S : St) : Option (V × List (Nat × Box) × List Prop) :=
  match run P m pre sc [] 10000 todo S with
  | some (.done S1, obs) => match evRes P S1 fn.results.toList with
    | some rs => some (packRes rs, pickB S1.bx (reachK S1.bx 200 (upK m ++ V.keys (packRes rs)) []), obs)
    | none => none
  | _ => none

theorem GoToM.segOwn (hm : P.follows .mixedOrders = true) {Q : V → List (Nat × Box) → Prop} {fn : Func} (hf : P.funcs[f]? = some fn) {pre : List (Nat × List Pre)} {sc : List (Nat × List (Nat × An))} {todo : List Item} {r : V} {bx2 : List (Nat × Box)} {obs : List Prop}
    (he : Hb.segOwn P fn m pre sc todo S = some (r, bx2, obs)) (ho : AllP obs) (hq : Q r bx2) : GoToM P f m Q todo S := by
  unfold Hb.segOwn at he
  split at he
  · rename_i S1 obs1 hrun
    split at he
    · rename_i rs h3
      injection he with he; injection he with e1 he; injection he with e2 e3
      subst e1 e2 e3
      exact ⟨_, _, hq, run_ok hm hrun ho (show Fin P f m _ _ S1 from fin_keep hf h3 fun k B hg => pickB_get hg)⟩
    · cases he
  · cases he
theorem GoToM.segAt (hm : P.follows .mixedOrders = true) {Q : V → List (Nat × Box) → Prop} {pre : List (Nat × List Pre)} {sc : List (Nat × List (Nat × An))} {stop : List Nat} {ps : List Pre} {nx : Nat} {fs : List Nat} {R : List (Nat × Nat)} {todo todo' : List Item} {obs : List Prop}
    (he : Hb.segAt P m pre sc stop ps nx fs R todo S = some (todo', S', obs)) (ho : AllP obs) (h : GoToM P f m Q todo' S') : GoToM P f m Q todo S :=
  let ⟨r, b, hq, h⟩ := h
  ⟨r, b, hq, h.segAt hm he ho⟩
theorem specM_of {fn : Func} {args : List V} {bx : List (Nat × Box)} {r : V} {b1 : List (Nat × Box)} (hf : P.funcs[f]? = some fn) (hname : (fn.name == "runtime.NumGoroutine") = false) (hb : fn.body = some (bodyOf fn)) (hn : Nat.ble args.length fn.ntmps = true)
    (h : GoToM P f m (fun x y => x = r ∧ y = b1) [.code (bodyOf fn)] (St0 fn m args bx)) : Spec P f m args bx r b1 := by
  obtain ⟨_, _, ⟨rfl, rfl⟩, h⟩ := h
  exact spec_of hf hname hb (Nat.le_of_ble_eq_true hn) h

/-- The boxes left, told in other words. -/
theorem Spec.reb {args : List V} {bx b1 b2 : List (Nat × Box)} {r : V} (h : Spec P f m args bx r b1) (h1 : ∀ k B, aget b2 k = some B → ∃ C, aget b1 k = some C ∧ LeB C B) : Spec P f m args bx r b2 := by
  refine ⟨h.1, fun E σ vals hm hσ hs hv => (h.2 E σ vals hm hσ hs hv).mono ?_⟩
  rintro e w' ⟨v, σ', h2, h3, h4, h5⟩
  have hbad : ∀ b, ¬ badOf E σ' b1 b → ¬ badOf E σ' b2 b := by
    intro b hn
    rintro (h0 | ⟨k, B, hg, hkb⟩)
    · exact hn (.inl h0)
    · obtain ⟨C, hC, _⟩ := h1 k B hg
      exact hn (.inr ⟨k, C, hC, hkb⟩)
  have hmono : ∀ b, b < w'.heap.size → ¬ badOf E σ' b1 b → ¬ badOf E σ' b2 b ∧ w'.heap[b]? = w'.heap[b]? := fun b _ hn => ⟨hbad b hn, rfl⟩
  refine ⟨v, σ', h2, h3, h4.mono (fun _ _ h => h) hmono, ⟨fun k B hg => ?_, fun k B b hg hkb => ?_, fun k k' B B' b hg hg' hkb hkb' => ?_, h5.os, h5.tape, h5.output, h5.size, h5.old, h5.hbad⟩⟩
  · obtain ⟨C, hC, hle⟩ := h1 k B hg
    exact hle _ _ _ _ ((h5.box k C hC).mono (fun _ _ h => h) hmono (fun _ _ => rfl))
  · obtain ⟨C, hC, _⟩ := h1 k B hg
    exact h5.own k C b hC hkb
  · obtain ⟨C, hC, _⟩ := h1 k B hg
    obtain ⟨C', hC', _⟩ := h1 k' B' hg'
    exact h5.dist k k' C C' b hC hC' hkb hkb'

/-- A contract of which one thing is known of the result. -/
def SpecE (P : Program) (f : FuncId) (args : List V) (Q : V → Prop) : Prop := ∃ r, Q r ∧ SpecD P f args r
def SpecW (P : Program) (f : FuncId) (args : List V) (ty sz : Nat) (Q : Nat → (Nat → List V) → Prop) : Prop := ∃ n g, Q n g ∧ SpecV P f args ty sz n g

theorem specE_of {fn : Func} {args : List V} {Q : V → Prop} (hf : P.funcs[f]? = some fn) (hname : (fn.name == "runtime.NumGoroutine") = false) (hb : fn.body = some (bodyOf fn)) (hn : Nat.ble args.length fn.ntmps = true)
    (h : GoToE P f Q [.code (bodyOf fn)] (St0 fn 0 args [])) : SpecE P f args Q :=
  let ⟨r, hq, h⟩ := h
  ⟨r, hq, spec_of hf hname hb (Nat.le_of_ble_eq_true hn) h⟩
theorem specW_of {fn : Func} {args : List V} {ty sz : Nat} {Q : Nat → (Nat → List V) → Prop} (hf : P.funcs[f]? = some fn) (hname : (fn.name == "runtime.NumGoroutine") = false) (hb : fn.body = some (bodyOf fn)) (hn : Nat.ble args.length fn.ntmps = true)
    (h : GoToV P f ty sz Q [.code (bodyOf fn)] (St0 fn 0 args [])) : SpecW P f args ty sz Q :=
  let ⟨n, g, hq, h⟩ := h
  ⟨n, g, hq, spec_of hf hname hb (Nat.le_of_ble_eq_true hn) h⟩
theorem GoToE.mono {Q Q' : V → Prop} {todo : List Item} (h : ∀ r, Q r → Q' r) (g : GoToE P f Q todo S) : GoToE P f Q' todo S :=
  let ⟨r, hq, g⟩ := g
  ⟨r, h r hq, g⟩
theorem SpecE.eq {args : List V} {r : V} (h : SpecE P f args (Eq r)) : SpecD P f args r := by
  obtain ⟨_, rfl, h⟩ := h; exact h

def arep {α : Type} : List (Nat × α) → Nat → α → List (Nat × α)
  | [], _, _ => []
  | (k, x) :: l, n, y => match Nat.beq k n with
    | true => (k, y) :: l
    | false => (k, x) :: arep l n y

theorem aget_arep {α : Type} : ∀ (l : List (Nat × α)) (n m : Nat) (y : α), aget (arep l n y) m = if m = n ∧ (aget l n).isSome then some y else aget l m
  | [], n, m, y => by simp [arep, aget]
  | (k, x) :: l, n, m, y => by
    unfold arep
    split
    · rename_i hb
      rw [Nat.beq_eq] at hb; subst hb
      simp only [aget]
      by_cases hm : m = k
      · subst hm; simp
      · have : Nat.beq k m = false := by rw [← Bool.not_eq_true, Nat.beq_eq]; omega
        simp [this, hm]
    · rename_i hb
      have hne : k ≠ n := by rw [← Bool.not_eq_true, Nat.beq_eq] at hb; exact hb
      simp only [aget, hb]
      split
      · rename_i hkm
        rw [Nat.beq_eq] at hkm; subst hkm
        simp [hne]
      · exact aget_arep l n m y

/-- A row of one's own, said otherwise. -/
theorem GoTo.reVec {todo : List Item} {k ty sz n n' : Nat} {g g' : Nat → List V} (h0 : aget S.bx k = some (.vec ty sz n g)) (hn : n = n') (hg : ∀ i, i < n → g i = g' i) (h : GoTo P f m res bx1 todo { S with bx := arep S.bx k (.vec ty sz n' g') }) : GoTo P f m res bx1 todo S := by
  intro E σ a w b cs hb hk hr hf hnx
  refine h E σ a w b cs hb hk ?_ hf hnx
  have hget : ∀ q B, aget (arep S.bx k (.vec ty sz n' g')) q = some B → ∃ C, aget S.bx q = some C ∧ LeB C B := by
    intro q B hq
    rw [aget_arep] at hq
    split at hq
    · rename_i hqk
      obtain ⟨rfl, _⟩ := hqk
      injection hq with hq; subst hq
      exact ⟨_, h0, .vec hn hg⟩
    · exact ⟨B, hq, .refl B⟩
  have hbad : ∀ b, ¬ badOf E σ S.bx b → ¬ badOf E σ (arep S.bx k (.vec ty sz n' g')) b := by
    intro b hn
    rintro (h1 | ⟨q, B, hq, hqb⟩)
    · exact hn (.inl h1)
    · obtain ⟨C, hC, _⟩ := hget q B hq
      exact hn (.inr ⟨q, C, hC, hqb⟩)
  have hmono : ∀ b, b < w.heap.size → ¬ badOf E σ S.bx b → ¬ badOf E σ (arep S.bx k (.vec ty sz n' g')) b ∧ w.heap[b]? = w.heap[b]? := fun b _ hn => ⟨hbad b hn, rfl⟩
  refine ⟨⟨fun q B hq => ?_, fun q B b hq hqb => ?_, fun q q' B B' b hq hq' hqb hqb' => ?_, hr.os, hr.tape, hr.output, hr.size, hr.old, hr.hbad⟩, hr.dfs, hr.nt, fun t s hs => ?_⟩
  · obtain ⟨C, hC, hle⟩ := hget q B hq
    exact (hle _ _ _ _ (hr.box q C hC)).mono (fun _ _ h => h) hmono (fun _ _ => rfl)
  · obtain ⟨C, hC, _⟩ := hget q B hq
    exact hr.own q C b hC hqb
  · obtain ⟨C, hC, _⟩ := hget q B hq
    obtain ⟨C', hC', _⟩ := hget q' B' hq'
    exact hr.dist q q' C C' b hC hC' hqb hqb'
  · obtain ⟨v, hv, hc⟩ := hr.fr t s hs
    exact ⟨v, hv, hc.mono (fun _ _ h => h) hmono⟩

theorem GoToE.reVec {Q : V → Prop} {todo : List Item} (k : Nat) {ty sz n n' : Nat} {g g' : Nat → List V} (h0 : aget S.bx k = some (.vec ty sz n g)) (hn : n = n') (hg : ∀ i, i < n → g i = g' i) (h : GoToE P f Q todo { S with bx := arep S.bx k (.vec ty sz n' g') }) : GoToE P f Q todo S :=
  let ⟨r, hq, h⟩ := h
  ⟨r, hq, h.reVec h0 hn hg⟩
theorem GoToV.reVec {Q : Nat → (Nat → List V) → Prop} {ty0 sz0 : Nat} {todo : List Item} (k : Nat) {ty sz n n' : Nat} {g g' : Nat → List V} (h0 : aget S.bx k = some (.vec ty sz n g)) (hn : n = n') (hg : ∀ i, i < n → g i = g' i) (h : GoToV P f ty0 sz0 Q todo { S with bx := arep S.bx k (.vec ty sz n' g') }) : GoToV P f ty0 sz0 Q todo S :=
  let ⟨r, g, hq, h⟩ := h
  ⟨r, g, hq, h.reVec h0 hn ‹_›⟩

/-- Less is known of the result. -/
theorem Spec.le {args : List V} {r r' : V} (h : SpecD P f args r) (hle : Le r r') : SpecD P f args r' := by
  refine ⟨h.1, fun E σ vals hm hσ hs hv => (h.2 E σ vals hm hσ hs hv).mono ?_⟩
  rintro e w' ⟨v, σ', h1, h2, h3, h4⟩
  exact ⟨v, σ', h1, h2, hle _ _ _ _ h3, h4⟩
theorem SpecE.le {args : List V} {r : V} (h : SpecE P f args (fun x => Le x r)) : SpecD P f args r :=
  let ⟨_, hq, h⟩ := h
  Spec.le h hq
end
end Go.Hb

/-
  THE SYMBOLIC LAYER, PART U: '==' on structs and arrays of plain cells ('eqV').
-/
namespace Go.Hb
open Go.RowKit

mutual
/-- Two values of a type: are they one? -/
def eqV (P : Program) : Nat → TypeId → V → V → Option Bool
  | 0, _, _, _ => none
  | d + 1, t, s, r => match P.underlying t with
    | some (.int _) => match s, r with
      | .int k x, .int k' y => match kEq k k' with
        | true => some (x == y)
        | false => none
      | _, _ => none
    | some .bool => match s.asB, r.asB with
      | some x, some y => some (x == y)
      | _, _ => none
    | some .string => match s, r with
      | .str x, .str y => some (strEq x y)
      | _, _ => none
    | some (.struct _) => match s, r, P.stoodInHeld t with
      | .agg l, .agg m, false => eqFs P d (P.fieldsOf t).toList l m
      | _, _, _ => none
    | some (.array n e) => match s, r, P.info? e with
      | .agg l, .agg m, some _ => eqIs P d e (P.cellsOf e) n 0 l m
      | _, _, _ => none
    | _ => none
def eqFs (P : Program) : Nat → List Field → List V → List V → Option Bool
  | 0, _, _, _ => none
  | _ + 1, [], _, _ => some true
  | d + 1, f :: fs, l, m => match f.name == "_", loadL P f.type l f.offset, loadL P f.type m f.offset with
    | false, some s, some r => match eqV P d f.type s r, eqFs P d fs l m with
      | some a, some b => some (a && b)
      | _, _ => none
    | _, _, _ => none
def eqIs (P : Program) : Nat → TypeId → Nat → Nat → Nat → List V → List V → Option Bool
  | 0, _, _, _, _, _, _ => none
  | _ + 1, _, _, 0, _, _, _ => some true
  | d + 1, e, sz, n + 1, i, l, m => match loadL P e l (i * sz), loadL P e m (i * sz) with
    | some s, some r => match eqV P d e s r, eqIs P d e sz n (i + 1) l m with
      | some a, some b => some (a && b)
      | _, _ => none
    | _, _ => none
end

section
variable {P : Program} {σ : Nat → Option Value} {w : World} {bad : Nat → Prop}

theorem loadA_of {t : TypeId} {l : List V} {off : Nat} {r : V} (h : loadL P t l off = some r) : loadA P t l off .no = some (r, []) := by
  unfold loadA; rw [h]

theorem asB_val {s : V} {b : Bool} {v : Value} (h : s.asB = some b) (hv : CV σ w bad s v) : v = .bool b := by
  cases s <;> simp [V.asB] at h <;> subst h <;> cases hv with
  | data hd => cases hd; rfl

theorem eqV_run : ∀ (d : Nat),
    (∀ (t : TypeId) (s r : V) (b : Bool), eqV P d t s r = some b → ∀ (D : Nat) (x y : Value), d ≤ D → CV σ w bad s x → CV σ w bad r y → (Op.equalIn D t x y).run P w = .ok b w) ∧
    (∀ (fs : List Field) (l m : List V) (b : Bool), eqFs P d fs l m = some b → ∀ (D : Nat) (xs ys : Array Value), d ≤ D → CV σ w bad (.agg l) (.agg xs) → CV σ w bad (.agg m) (.agg ys) → (Op.eqFields D xs ys fs).run P w = .ok b w) ∧
    (∀ (e : TypeId) (sz n i : Nat) (l m : List V) (b : Bool), eqIs P d e sz n i l m = some b → ∀ (D : Nat) (xs ys : Array Value), d ≤ D → CV σ w bad (.agg l) (.agg xs) → CV σ w bad (.agg m) (.agg ys) → (Op.eqItems D e sz xs ys (List.range' i n)).run P w = .ok b w)
  | 0 => by
    refine ⟨fun t s r b h => by simp [eqV] at h, fun fs l m b h => by simp [eqFs] at h, fun e sz n i l m b h => by simp [eqIs] at h⟩
  | d + 1 => by
    obtain ⟨ih1, ih2, ih3⟩ := eqV_run d
    refine ⟨fun t s r b h D x y hD hx hy => ?_, fun fs l m b h D xs ys hD hx hy => ?_, fun e sz n i l m b h D xs ys hD hx hy => ?_⟩
    · obtain ⟨D, rfl⟩ : ∃ D', D = D' + 1 := ⟨D - 1, by omega⟩
      unfold eqV at h
      split at h
      · rename_i k0 hu
        split at h
        · rename_i k x' k' y'
          split at h
          · rename_i hk
            obtain rfl := kEq_ok hk
            injection h with h; subst h
            cases hx with
            | data hd => cases hd; cases hy with
              | data hd => cases hd; exact run_equalIn_int w D t _ _ _ _ hu
          · cases h
        · cases h
      · rename_i hu
        split at h
        · rename_i a c ha hc
          injection h with h; subst h
          rw [asB_val ha hx, asB_val hc hy]
          exact run_equalIn_bool' w D t _ _ hu
        · cases h
      · rename_i hu
        split at h
        · injection h with h; subst h
          cases hx with
          | data hd => cases hd; cases hy with
            | data hd => cases hd; exact run_equalIn_string w D t _ _ hu
        · cases h
      · rename_i fs hu
        split at h
        · rename_i l m hst
          cases hx with
          | data hd => cases hd
          | agg xs u1 a1 a2 a3 a4 => cases hy with
            | data hd => cases hd
            | agg ys u2 b1 b2 b3 b4 =>
              rw [run_equalIn_struct w D t xs ys (by simp [Program.fieldsOf, hu]) hst]
              exact ih2 _ _ _ _ h D xs ys (by omega) (.agg xs u1 a1 a2 a3 a4) (.agg ys u2 b1 b2 b3 b4)
        · cases h
      · rename_i n e hu
        split at h
        · rename_i l m i hi
          cases hx with
          | data hd => cases hd
          | agg xs u1 a1 a2 a3 a4 => cases hy with
            | data hd => cases hd
            | agg ys u2 b1 b2 b3 b4 =>
              rw [run_equalIn_array w D xs ys hu hi, List.range_eq_range']
              exact ih3 _ _ _ _ _ _ _ h D xs ys (by omega) (.agg xs u1 a1 a2 a3 a4) (.agg ys u2 b1 b2 b3 b4)
        · cases h
      · cases h
    · cases fs with
      | nil => simp only [eqFs, Option.some.injEq] at h; subst h; simp [Op.eqFields]
      | cons f fs =>
        unfold eqFs at h
        split at h
        · rename_i s r hn hs hr
          split at h
          · rename_i b1 b2 h1 h2
            injection h with h; subst h
            obtain ⟨_, e1, x, hx1, hx2⟩ := run_part (loadA_of hs) trivial hx
            injection e1 with e1; subst e1
            obtain ⟨_, e2, y, hy1, hy2⟩ := run_part (loadA_of hr) trivial hy
            injection e2 with e2; subst e2
            have hr1 := ih1 _ _ _ _ h1 D x y (by omega) hx2 hy2
            have hr2 := ih2 _ _ _ _ h2 D _ _ (by omega) hx hy
            have hne : f.name ≠ "_" := by simpa using hn
            simp only [Op.eqFields, if_pos hne, Sem.run_bind, hx1, hy1, hr1, Result.andThen_ok]
            cases b1
            · simp
            · simpa using hr2
          · cases h
        · cases h
    · cases n with
      | zero => simp only [eqIs, Option.some.injEq] at h; subst h; simp [Op.eqItems]
      | succ n =>
        unfold eqIs at h
        split at h
        · rename_i s r hs hr
          split at h
          · rename_i b1 b2 h1 h2
            injection h with h; subst h
            obtain ⟨_, e1, x, hx1, hx2⟩ := run_part (loadA_of hs) trivial hx
            injection e1 with e1; subst e1
            obtain ⟨_, e2, y, hy1, hy2⟩ := run_part (loadA_of hr) trivial hy
            injection e2 with e2; subst e2
            have hr1 := ih1 _ _ _ _ h1 D x y (by omega) hx2 hy2
            have hr2 := ih3 _ _ _ _ _ _ _ h2 D _ _ (by omega) hx hy
            simp only [List.range'_succ, Op.eqItems, Sem.run_bind, hx1, hy1, hr1, Result.andThen_ok]
            cases b1
            · simp
            · simpa using hr2
          · cases h
        · cases h

theorem eqRun_of {t : TypeId} {l m : List V} {b : Bool} (hg : P.eqGuardType P.depth t = false) (h : eqV P 1000 t (.agg l) (.agg m) = some b) : EqRun P t l m b := by
  intro σ w bad x y p q hx hy
  have hr := (eqV_run (P := P) (σ := σ) (w := w) (bad := bad) 1000).1 _ _ _ _ h 10000 x y (by omega) hx hy
  cases hx with
  | data hd => cases hd
  | agg xs u1 a1 a2 a3 a4 => cases hy with
    | data hd => cases hd
    | agg ys u2 b1 b2 b3 b4 => exact ⟨run_eqGuard_agg w _ t p q xs ys hg, run_eqGuard_agg w _ t p q xs ys hg, hr⟩
end
end Go.Hb

/-
  THE SYMBOLIC LAYER, PART W: arguments that came in, opened by their types alone; and the close of a law that hands back true.
-/
namespace Go.Hb
open Go.RowKit Go.ChangeShapes Go.WideShapes

/-- Plain types: bools, integers, strings; rows, structs and arrays of such. -/
def tiles (P : Program) (p : TypeId → Bool) (c : Nat) : Nat → List Field → Bool
  | o, [] => Nat.beq o c
  | o, f :: fs => Nat.beq f.offset o && (p f.type && tiles P p c (o + P.cellsOf f.type) fs)
def plainT (P : Program) : Nat → TypeId → Bool
  | 0, _ => false
  | d + 1, t => match P.underlying t with
    | some .bool => true
    | some (.int _) => true
    | some .string => true
    | some (.slice e) => plainT P d e && (Nat.blt 0 (P.cellsOf e) && Nat.blt 0 (P.bytesOf e))
    | some (.struct fs) => tiles P (plainT P d) (P.cellsOf t) 0 fs.toList
    | some (.array n e) => plainT P d e && Nat.beq (P.cellsOf t) (n * P.cellsOf e)
    | _ => false

/-- A plain type's values, cell by cell. -/
def ShapeFs (p : TypeId → List V → Prop) : List Field → List V → Prop
  | [], l => l = []
  | f :: fs, l => ∃ l1 l2, l = l1 ++ l2 ∧ p f.type l1 ∧ ShapeFs p fs l2
def ShapeN (p : List V → Prop) : Nat → List V → Prop
  | 0, l => l = []
  | n + 1, l => ∃ l1 l2, l = l1 ++ l2 ∧ p l1 ∧ ShapeN p n l2
def Shape (P : Program) : Nat → TypeId → List V → Prop
  | 0, _, _ => False
  | d + 1, t, l => match P.underlying t with
    | some .bool => ∃ b, l = [.bool b]
    | some (.int k) => ∃ n, l = [.int k n] ∧ (Lit.int k n).wf = true
    | some .string => ∃ s : ByteArray, l = [.str s] ∧ s.size ≤ 140737488355328
    | some (.slice e) => ∃ n f, l = [.seq (P.cellsOf e) n f] ∧ n ≤ 140737488355328 ∧ ∀ i, i < n → Shape P d e (f i)
    | some (.struct fs) => ShapeFs (Shape P d) fs.toList l
    | some (.array n e) => ShapeN (Shape P d e) n l
    | _ => False

def CR (w : World) (l : List V) (cs : List Value) : Prop := l.length = cs.length ∧ ∀ (j : Nat) (s : V), l[j]? = some s → ∃ u, cs[j]? = some u ∧ CD w (fun _ => False) s u
theorem CR.nil {w : World} : CR w [] [] := ⟨rfl, fun j s h => by simp at h⟩
theorem CR.one {w : World} {s : V} {u : Value} (h : CD w (fun _ => False) s u) : CR w [s] [u] := ⟨rfl, fun j r hj => by
  cases j with
  | zero => simp at hj; subst hj; exact ⟨u, rfl, h⟩
  | succ j => simp at hj⟩
theorem CR.append {w : World} {l m : List V} {c d : List Value} (h1 : CR w l c) (h2 : CR w m d) : CR w (l ++ m) (c ++ d) := ⟨by simp [h1.1, h2.1], fun j s hj => by
  rw [List.getElem?_append] at hj ⊢
  rw [← h1.1]
  split at hj
  · rename_i hlt; rw [if_pos hlt]; exact h1.2 j s hj
  · rename_i hlt; rw [if_neg hlt]; exact h2.2 _ s hj⟩

theorem weights_all {H : Type} {P : Program} {e : TypeId} : ∀ {ds : List (DataW H)} {i : Nat} {d : DataW H}, ds[i]? = some d → ∀ n ∈ d.weights P e, n ∈ DataW.weightsAll P e ds
  | [], _, _, h, _, _ => by simp at h
  | x :: ds, 0, d, h, n, hn => by simp at h; subst h; simp [DataW.weightsAll, hn]
  | x :: ds, i + 1, d, h, n, hn => by
    simp at h
    simp only [DataW.weightsAll, List.mem_append]
    exact Or.inr (weights_all h n hn)

theorem cells_len {w : World} {base : Nat} {a : Addr} {n : Nat} {cs : List Value} (h : w.cells? base a n = some cs) : cs.length = n ∧ ∀ j, j < n → w.cell? (a.add j) = cs[j]? := by
  unfold World.cells? at h
  split at h
  · exact ⟨by simpa using mapM_some_length h, fun j hj => mapM_some_get h j j (by simp [hj])⟩
  · cases h

theorem add_add (a : Addr) (m j : Nat) (h : a.spot = none) : (a.add m).add j = ⟨a.block, a.off + (m + j), none⟩ := by
  obtain ⟨b, o, s⟩ := a
  simp only at h
  subst h
  unfold Addr.add
  by_cases h1 : m = 0 <;> by_cases h2 : j = 0 <;> simp [h1, h2]
  omega

theorem spot_none {w : World} {a : Addr} {v : Value} (h : w.cell? a = some v) : a.spot = none := by
  unfold World.cell? at h
  split at h
  · split at h
    · cases h
    · rename_i hs; simpa using hs
  · cases h

section
variable {H : Type} {enc : TypeId × Value → H} {P : Program} {w : World} {base : Nat} {spare : Nat → Bool} {held : Bool}

theorem fs_shape {d : Nat} {fuel : Nat} {c : Nat} {cs : List Value} (hc : cs.length = c)
    (ih : ∀ (t : TypeId) (cs : List Value) (x : DataW H × List MemPlace), plainT P d t = true → DataW.trod enc P w base spare held fuel t cs = some x → (∀ n ∈ x.1.weights P t, n ≤ reachBytes) → ∃ l, Shape P d t l ∧ CR w l cs) :
    ∀ (fs : List Field) (o : Nat) (xs : List (DataW H × List MemPlace)), tiles P (plainT P d) c o fs = true → xs.length = fs.length →
      (∀ (i : Nat) (f : Field), fs[i]? = some f → DataW.trod enc P w base spare held fuel f.type ((cs.drop f.offset).take (P.cellsOf f.type)) = xs[i]?) →
      (∀ n ∈ DataW.weightsEach P (fs.map (·.type)) (xs.map (·.1)), n ≤ reachBytes) → ∃ l, ShapeFs (Shape P d) fs l ∧ CR w l (cs.drop o)
  | [], o, xs, ht, _, _, _ => by
    have ho : o = c := by simpa [tiles] using ht
    subst ho
    exact ⟨[], rfl, by rw [← hc, List.drop_length]; exact CR.nil⟩
  | f :: fs, o, [], _, hl, _, _ => by simp at hl
  | f :: fs, o, x :: xs, ht, hl, hx, hw => by
    simp only [tiles, Bool.and_eq_true] at ht
    obtain ⟨h1, h2, h3⟩ := ht
    have ho : f.offset = o := by simpa using h1
    have hx0 := hx 0 f rfl
    simp only [List.getElem?_cons_zero] at hx0
    have hw0 : ∀ n ∈ x.1.weights P f.type, n ≤ reachBytes := fun n hn => hw n (by simp [DataW.weightsEach, hn])
    obtain ⟨l1, s1, c1⟩ := ih _ _ _ h2 hx0 hw0
    obtain ⟨l2, s2, c2⟩ := fs_shape hc ih fs (o + P.cellsOf f.type) xs h3 (by simpa using hl) (fun i g hg => by simpa using hx (i + 1) g (by simpa using hg))
      (fun n hn => hw n (by simp only [List.map_cons, DataW.weightsEach, List.mem_append]; exact Or.inr hn))
    refine ⟨l1 ++ l2, ⟨l1, l2, rfl, s1, s2⟩, ?_⟩
    have := c1.append c2
    rw [ho, ← List.drop_drop, List.take_append_drop] at this
    exact this

theorem arr_shape {d : Nat} {fuel : Nat} {e : TypeId} (he : plainT P d e = true)
    (ih : ∀ (t : TypeId) (cs : List Value) (x : DataW H × List MemPlace), plainT P d t = true → DataW.trod enc P w base spare held fuel t cs = some x → (∀ n ∈ x.1.weights P t, n ≤ reachBytes) → ∃ l, Shape P d t l ∧ CR w l cs) :
    ∀ (n : Nat) (cs : List Value) (xs : List (DataW H × List MemPlace)), cs.length = n * P.cellsOf e → xs.length = n →
      (∀ i, i < n → DataW.trod enc P w base spare held fuel e ((cs.drop (i * P.cellsOf e)).take (P.cellsOf e)) = xs[i]?) →
      (∀ m ∈ DataW.weightsAll P e (xs.map (·.1)), m ≤ reachBytes) → ∃ l, ShapeN (Shape P d e) n l ∧ CR w l cs
  | 0, cs, xs, hc, _, _, _ => by
    obtain rfl : cs = [] := List.length_eq_zero_iff.1 (by omega)
    exact ⟨[], rfl, CR.nil⟩
  | n + 1, cs, [], _, hl, _, _ => by simp at hl
  | n + 1, cs, x :: xs, hc, hl, hx, hw => by
    have hx0 := hx 0 (by omega)
    simp only [List.getElem?_cons_zero, Nat.zero_mul, List.drop_zero] at hx0
    obtain ⟨l1, s1, c1⟩ := ih _ _ _ he hx0 (fun m hm => hw m (by simp [DataW.weightsAll, hm]))
    obtain ⟨l2, s2, c2⟩ := arr_shape he ih n (cs.drop (P.cellsOf e)) xs (by rw [List.length_drop, hc, Nat.succ_mul]; omega) (by simpa using hl) (fun i hi => by
      have := hx (i + 1) (by omega)
      rw [List.drop_drop]
      rw [Nat.succ_mul, Nat.add_comm] at this
      simpa using this) (fun m hm => hw m (by simp only [List.map_cons, DataW.weightsAll, List.mem_append]; exact Or.inr hm))
    refine ⟨l1 ++ l2, ⟨l1, l2, rfl, s1, s2⟩, ?_⟩
    have := c1.append c2
    rw [List.take_append_drop] at this
    exact this

theorem trod_shape : ∀ (d : Nat) (t : TypeId) (fuel : Nat) (cs : List Value) (x : DataW H × List MemPlace), plainT P d t = true → DataW.trod enc P w base spare held fuel t cs = some x →
    (∀ n ∈ x.1.weights P t, n ≤ reachBytes) → ∃ l, Shape P d t l ∧ CR w l cs
  | 0, t, fuel, cs, x, hp, _, _ => by simp [plainT] at hp
  | d + 1, t, fuel, cs, x, hp, h, hw => by
    have hrb : reachBytes ≤ 140737488355328 := by decide
    unfold plainT at hp
    unfold Shape
    cases hu : P.underlying t with
    | none => rw [hu] at hp; cases hp
    | some k =>
      rw [hu] at hp
      cases k with
      | bool =>
        obtain ⟨b, rfl, rfl⟩ := DataW.trod_bool hu h
        exact ⟨[.bool b], ⟨b, rfl⟩, CR.one .bool⟩
      | int k =>
        obtain ⟨n, rfl, rfl, hf⟩ := DataW.trod_int hu h
        exact ⟨[.int k n], ⟨n, rfl, hf⟩, CR.one .int⟩
      | string =>
        obtain ⟨s, rfl, rfl, _⟩ := DataW.trod_string hu h
        have := hw s.data.toList.length (by simp [DataW.weights])
        exact ⟨[.str s], ⟨s, rfl, by simp only [Array.length_toList, ByteArray.size_data] at this; omega⟩, CR.one .str⟩
      | slice e =>
        simp only [Bool.and_eq_true] at hp
        obtain ⟨hp, hz, hb⟩ := hp
        have hz : 0 < P.cellsOf e := by simpa using hz
        have hb : 0 < P.bytesOf e := by simpa using hb
        rcases DataW.trod_slice hu h with ⟨rfl, rfl⟩ | ⟨a, len, cap, elems, rest, n, rfl, rfl, rfl, ha, hlc, _, hel, hat, _, _⟩
        · exact ⟨[.seq (P.cellsOf e) 0 fun _ => []], ⟨0, _, rfl, by omega, fun i hi => by omega⟩, CR.one (.seq none 0 0 0 (fun _ _ => .bool false) (by omega) (Nat.le_refl _) (fun i hi => by omega) (fun i j hi => by omega) (fun i j s hi => by omega) (fun _ => rfl))⟩
        · have hlen : len ≤ 140737488355328 := by
            have := hw ((elems.map (·.1)).length + (rest.map (·.1)).length |> (· * P.bytesOf e)) (by simp [DataW.weights, hu])
            have h2 : len * 1 ≤ (elems.length + rest.length) * P.bytesOf e := Nat.mul_le_mul (by omega) (by omega)
            simp only [List.length_map] at this
            omega
          have key : ∀ i, i < len → ∃ ci l, w.cells? base (a.add (i * P.cellsOf e)) (P.cellsOf e) = some ci ∧ Shape P d e l ∧ CR w l ci := by
            intro i hi
            have h1 := hat i hi
            obtain ⟨y, hy⟩ : ∃ y, elems[i]? = some y := ⟨elems[i]'(by omega), by simp⟩
            rw [hy, Option.bind_eq_some_iff] at h1
            obtain ⟨ci, h2, h3⟩ := h1
            obtain ⟨l, h4, h5⟩ := trod_shape d e n ci y hp h3 (fun m hm => hw m (by
              simp only [DataW.weights, hu, List.mem_cons, List.mem_append]
              exact Or.inr (Or.inl (weights_all (i := i) (by simp [hy]) m hm))))
            exact ⟨ci, l, h2, h4, h5⟩
          let C (i : Nat) : List Value := if hi : i < len then Classical.choose (key i hi) else []
          let F (i : Nat) : List V := if hi : i < len then Classical.choose (Classical.choose_spec (key i hi)) else []
          have hF : ∀ i, i < len → w.cells? base (a.add (i * P.cellsOf e)) (P.cellsOf e) = some (C i) ∧ Shape P d e (F i) ∧ CR w (F i) (C i) := by
            intro i hi
            show w.cells? base (a.add (i * P.cellsOf e)) (P.cellsOf e) = some (if hi : i < len then Classical.choose (key i hi) else []) ∧ Shape P d e (if hi : i < len then Classical.choose (Classical.choose_spec (key i hi)) else []) ∧
              CR w (if hi : i < len then Classical.choose (Classical.choose_spec (key i hi)) else []) (if hi : i < len then Classical.choose (key i hi) else [])
            rw [dif_pos hi, dif_pos hi]
            exact Classical.choose_spec (Classical.choose_spec (key i hi))
          have hsp : 0 < len → a.spot = none := by
            intro h0
            obtain ⟨h1, h2, h3⟩ := hF 0 h0
            obtain ⟨h4, h5⟩ := cells_len h1
            have h6 := h5 0 hz
            simp only [Nat.zero_mul] at h6
            have e0 : (a.add 0).add 0 = a := rfl
            rw [e0] at h6
            cases hc : (C 0)[0]? with
            | none => rw [List.getElem?_eq_none_iff] at hc; omega
            | some v => rw [hc] at h6; exact spot_none h6
          refine ⟨[.seq (P.cellsOf e) len F], ⟨len, F, rfl, hlen, fun i hi => (hF i hi).2.1⟩, CR.one ?_⟩
          refine .seq (some a) a.block a.off cap (fun i j => ((C i)[j]?).getD (.bool false)) (fun h0 => ?_) hlc (fun i hi => ?_) (fun i j hi hj => ⟨id, ?_⟩) (fun i j s hi hj => ?_) (fun h => by cases h)
          · have := hsp h0
            obtain ⟨b, o, s⟩ := a
            simp only at this
            rw [this]
          · rw [(hF i hi).2.2.1, (cells_len (hF i hi).1).1]
          · obtain ⟨h4, h5⟩ := cells_len (hF i hi).1
            have h6 := h5 j hj
            rw [add_add a _ _ (hsp (by omega))] at h6
            rw [h6]
            cases hc : (C i)[j]? with
            | none => rw [List.getElem?_eq_none_iff] at hc; omega
            | some v => rfl
          · obtain ⟨u, h1, h2⟩ := (hF i hi).2.2.2 j s hj
            rw [h1]
            exact h2
      | struct fs =>
        obtain ⟨xs, n, rfl, rfl, hl, hlx, hat⟩ := DataW.trod_struct hu h
        have hh : ∀ m ∈ DataW.weightsEach P (fs.toList.map (·.type)) (xs.map (·.1)), m ≤ reachBytes := by
          simpa [DataW.weights, hu] using hw
        obtain ⟨l, h1, h2⟩ := fs_shape hl (fun t cs x h1 h2 h3 => trod_shape d t n cs x h1 h2 h3) fs.toList 0 xs hp (by simpa using hlx) (fun i f hf => hat i f (by simpa using hf)) hh
        exact ⟨l, h1, h2⟩
      | array n e =>
        simp only [Bool.and_eq_true] at hp
        obtain ⟨hp, hz⟩ := hp
        have hz : P.cellsOf t = n * P.cellsOf e := by simpa using hz
        obtain ⟨xs, m, rfl, rfl, hl, hlx, hat⟩ := DataW.trod_array hu h
        have hh : ∀ k ∈ DataW.weightsAll P e (xs.map (·.1)), k ≤ reachBytes := by
          simpa [DataW.weights, hu] using hw
        exact arr_shape hp (fun t cs x h1 h2 h3 => trod_shape d t m cs x h1 h2 h3) n cs xs (hl.trans hz) hlx hat hh
      | _ => cases hp

/-- An argument's value: one cell, or a struct of cells. -/
def isRow (P : Program) (t : TypeId) : Bool := match P.underlying t with
  | some (.struct _) => true
  | some (.array _ _) => true
  | _ => false
def argV (P : Program) (t : TypeId) (l : List V) : V := if isRow P t then .agg l else l.headD .junk

theorem one_cells {v : Value} (h : v.oneCell' = true) : v.cells.toList = [v] := by
  cases v <;> first | rfl | simp [Value.oneCell'] at h

theorem arg_ok {d : Nat} {t : TypeId} {v : Value} {x : DataW H} {ps : List MemPlace} {b0 : Nat} {σ : Nat → Option Value} (hp : plainT P d t = true) (hval : Value.okWide P w .any b0 t v) (hd : DataW.Trod enc P w base spare held t v x ps)
    (hw : ∀ n ∈ x.weights P t, n ≤ reachBytes) : ∃ l, Shape P d t l ∧ CV σ w (fun _ => False) (argV P t l) v := by
  obtain ⟨fuel, hf⟩ := hd
  obtain ⟨l, h1, h2⟩ := trod_shape d t fuel _ _ hp hf hw
  refine ⟨l, h1, ?_⟩
  have agg : ∀ cs : Array Value, v = .agg cs → CV σ w (fun _ => False) (.agg l) v := by
    rintro cs rfl
    have h2 : CR w l cs.toList := h2
    refine .agg cs (fun j => (cs[j]?).getD (.bool false)) (by have := h2.1; simpa using this.symm) (fun j hj => ?_) (fun j hj => ?_) (fun j s hj => ?_)
    · have : j < cs.size := by have := h2.1; simp at this; omega
      simp [this]
    · obtain ⟨u, h3, h4⟩ := h2.2 j (l[j]'hj) (by simp)
      have h3 : cs[j]? = some u := by simpa using h3
      rw [h3]; exact h4.oneCell
    · obtain ⟨u, h3, h4⟩ := h2.2 j s hj
      have h3 : cs[j]? = some u := by simpa using h3
      rw [h3]; exact .data h4
  have one : v.oneCell' = true → CV σ w (fun _ => False) (l.headD .junk) v := by
    intro h1
    rw [one_cells h1] at h2
    have hl : l.length = 1 := by simpa using h2.1
    obtain ⟨s, rfl⟩ := List.length_eq_one_iff.1 hl
    obtain ⟨u, h3, h4⟩ := h2.2 0 s rfl
    simp at h3
    subst h3
    exact .data h4
  unfold argV isRow
  unfold plainT at hp
  cases d with
  | zero => simp [plainT] at hp
  | succ d =>
    simp only [] at hp
    cases hu : P.underlying t with
    | none => rw [hu] at hp; cases hp
    | some k =>
      rw [hu] at hp
      cases k with
      | bool => obtain ⟨b, rfl⟩ := okWide_bool hu hval; exact one rfl
      | int k => obtain ⟨b, rfl⟩ := okWide_int hu hval; exact one rfl
      | string => obtain ⟨b, rfl⟩ := okWide_string hu hval; exact one rfl
      | slice e => obtain ⟨a, n, c, rfl⟩ := okWide_slice hu hval; exact one rfl
      | struct fs => obtain ⟨cs, h3, _⟩ := okWide_struct hu hval; exact agg cs h3
      | array n e =>
        simp only [Value.okWide, hu] at hval
        obtain ⟨cs, h3, _⟩ := hval
        exact agg cs h3
      | _ => cases hp

def ArgsOk (P : Program) (d : Nat) : List TypeId → List V → Prop
  | [], [] => True
  | t :: ts, s :: ss => (∃ l, Shape P d t l ∧ s = argV P t l) ∧ ArgsOk P d ts ss
  | _, _ => False

theorem args_ok {d : Nat} {b0 : Nat} {σ : Nat → Option Value} : ∀ {ts : List TypeId} {vs : List Value} {ds : List (DataW H)} {ps : List MemPlace}, ts.all (plainT P d) = true → DataW.TrodAll enc P w base spare held ts vs ds ps →
    (∀ (j : Nat) t v, ts[j]? = some t → vs[j]? = some v → Value.okWide P w .any b0 t v) → (∀ n ∈ DataW.weightsEach P ts ds, n ≤ reachBytes) →
    ∃ ss, ArgsOk P d ts ss ∧ vs.length = ss.length ∧ ∀ (j : Nat) (s : V), ss[j]? = some s → ∃ v, vs[j]? = some v ∧ CV σ w (fun _ => False) s v
  | [], vs, ds, ps, _, h, _, _ => by
    obtain ⟨rfl, rfl, rfl⟩ := trodAll_nil h
    exact ⟨[], trivial, rfl, fun j s h => by simp at h⟩
  | t :: ts, vs, ds, ps, hp, h, hv, hw => by
    obtain ⟨v, vs, x, ds, p, q, rfl, rfl, rfl, h1, h2⟩ := trodAll_cons h
    simp only [List.all_cons, Bool.and_eq_true] at hp
    obtain ⟨l, h3, h4⟩ := arg_ok (σ := σ) hp.1 (hv 0 t v rfl rfl) h1 (fun n hn => hw n (by simp [DataW.weightsEach, hn]))
    obtain ⟨ss, h5, h6, h7⟩ := args_ok (σ := σ) hp.2 h2 (fun j t v hj hj' => hv (j + 1) t v (by simpa using hj) (by simpa using hj')) (fun n hn => hw n (by simp only [DataW.weightsEach, List.mem_append]; exact Or.inr hn))
    refine ⟨argV P t l :: ss, ⟨⟨l, h3, rfl⟩, h5⟩, by simp [h6], fun j s hj => ?_⟩
    cases j with
    | zero => simp at hj; subst hj; exact ⟨v, rfl, h4⟩
    | succ j => obtain ⟨u, h8, h9⟩ := h7 j s (by simpa using hj); exact ⟨u, by simpa using h8, h9⟩

theorem args_one {d : Nat} {t : TypeId} {ss : List V} (h : ArgsOk P d [t] ss) : ∃ l, ss = [argV P t l] ∧ Shape P d t l := by
  cases ss with
  | nil => exact h.elim
  | cons s ss =>
    obtain ⟨⟨l, h1, h2⟩, h3⟩ := h
    cases ss with
    | nil => exact ⟨l, by rw [h2], h1⟩
    | cons s ss => exact h3.elim
theorem trodAll_stays (hl : laidOutB P = true) {W W' : World} {sp : Nat → Bool} (hs : ∀ p : MemPlace, p.block < W.heap.size → W.sameAt W' p) : ∀ {ts : List TypeId} {vs : List Value} {ds : List (DataW H)} {ps : List MemPlace},
    ts.all (fun t => P.readableRec t && Nat.blt t P.types.size) = true → DataW.TrodAll enc P W base (fun _ => true) true ts vs ds ps → (∀ p ∈ ps, p.block < W.heap.size ∧ sp p.block = true) → DataW.TrodAll enc P W' base sp true ts vs ds ps
  | [], vs, ds, ps, _, h, _ => by
    obtain ⟨rfl, rfl, rfl⟩ := trodAll_nil h
    rfl
  | t :: ts, vs, ds, ps, hr, h, hp => by
    obtain ⟨v, vs, x, ds, p, q, rfl, rfl, rfl, h1, h2⟩ := trodAll_cons h
    simp only [List.all_cons, Bool.and_eq_true] at hr
    refine ⟨p, q, WideElems.Trod_stays hl hr.1.1 (by simpa using hr.1.2) h1 (fun y hy => hs y (hp y (by simp [hy])).1) (fun y hy => (hp y (by simp [hy])).2), ?_, rfl⟩
    exact trodAll_stays hl hs (by simpa using hr.2) h2 (fun y hy => hp y (by simp [hy]))

theorem trodAll_len : ∀ {ts : List TypeId} {vs : List Value} {ds : List (DataW H)} {ps : List MemPlace}, DataW.TrodAll enc P w base spare held ts vs ds ps → ds.length = ts.length
  | [], vs, ds, ps, h => by
    obtain ⟨rfl, rfl, rfl⟩ := trodAll_nil h
    rfl
  | t :: ts, vs, ds, ps, h => by
    obtain ⟨v, vs, x, ds, p, q, rfl, rfl, rfl, h1, h2⟩ := trodAll_cons h
    simp [trodAll_len h2]

/-- THE CLOSE of a law: its function, on whatever plain arguments, hands back true. -/
theorem law_close {fn : Func} {f : FuncId} {s : ChangeSpec} {tb : TypeId} {apart fresh handsOn again : Bool} (d : Nat) (hpl : fn.params.toList.all (plainT P d) = true) (hvars : s.vars = []) (hres : fn.resultTypes = #[tb]) (htb : P.underlying tb = some .bool)
    (hfn : ∀ (ds : List (DataW H)), ds.length = fn.params.toList.length → s.fn H ds = { results := [.lit (.bool true)], args := ds }) (hl : laidOutB P = true) (hr : fn.params.toList.all (fun t => P.readableRec t && Nat.blt t P.types.size) = true)
    (h : ∀ ss : List V, ArgsOk P d fn.params.toList ss → SpecD P f ss (.bool true))
    (W : World) (base : Nat) (args : Array Value) (ds gs : List (DataW H)) (before : List MemPlace)
    (hval : ∀ (j : Nat) t v, fn.params[j]? = some t → args[j]? = some v → Value.okWide P W .any base t v)
    (hW : DataW.Whole enc P fn.params.toList s.vars apart W args.toList ds gs before)
    (hsz : (DataW.weightsEach P (fn.params.toList ++ s.plain.varTypes P) (ds ++ gs)).all (· ≤ reachBytes) = true) :
    Calls P f args W fun e W' => ∃ v, e = .returned v ∧ s.post enc P fn apart fresh handsOn again W args v W' := by
  have hW' := hW
  obtain ⟨p, q, hA, hV, rfl, hfz, hnd⟩ := hW
  rw [hvars] at hV
  obtain ⟨rfl, rfl⟩ : gs = [] ∧ q = [] := by
    cases gs with
    | nil => exact ⟨rfl, hV⟩
    | cons g gs => exact absurd hV id
  have hvt : s.plain.varTypes P = [] := by unfold DataSpec.varTypes ChangeSpec.plain; rw [hvars]; rfl
  simp only [hvt, List.append_nil] at hsz hfz hW' hnd
  have hlt : ∀ x ∈ p, x.block < W.heap.size := fun x hx => hW'.lt x hx
  have hfn := hfn ds (trodAll_len hA)
  let E : Env := { w0 := W, bad0 := fun _ => False, wr := fun _ => False }
  obtain ⟨ss, h1, h2, h3⟩ := args_ok (σ := fun _ => none) hpl hA (fun j t v hj hv => hval j t v (by simpa using hj) (by simpa using hv)) (fun n hn => by simpa using List.all_eq_true.1 hsz n hn)
  have hmem : Mem E (fun _ => none) [] W := ⟨by intro k B h; simp [aget] at h, by intro k B b h; simp [aget] at h, by intro k k' B B' b h; simp [aget] at h, rfl, rfl, rfl, Nat.le_refl _, fun _ _ _ => rfl, fun b h => h.elim⟩
  refine ((h ss h1).2 E (fun _ => none) args hmem (fun _ _ => rfl) (by simpa using h2) (fun j s hj => ?_)).mono fun e W' hq => ?_
  · obtain ⟨v, h4, h5⟩ := h3 j s hj
    exact ⟨v, by simpa using h4, h5.mono (fun _ _ h => h) (fun b hb _ => ⟨fun hb => hb.elim id (fun ⟨k, B, hk, _⟩ => by cases hk), rfl⟩)⟩
  · obtain ⟨v, σ', rfl, _, h5, h6⟩ := hq
    obtain rfl : v = .bool true := by
      cases h5 with
      | data h => cases h; rfl
    have hb : Below W.heap.size W W' := ⟨h6.os, h6.tape, h6.output, h6.size, fun k hk => h6.old k hk id⟩
    refine ⟨_, rfl, ds, [], p, [], p, [], hW', ?_, ?_, ?_, hb.frame _, fun _ => ⟨?_, [.lit (.bool true)] ++ ds, [], [] ++ p, ?_, fun x hx _ => by simpa using hx⟩⟩
    · rw [List.append_nil, hfn, hres]; exact trodAll_cons_mk (shut_bool htb _) rfl
    · rw [List.append_nil, hfn]
      exact trodAll_stays hl (fun x hx => hb.same hx) hr hA (fun x hx => ⟨hlt x hx, by simpa using hlt x hx⟩)
    · rw [List.append_nil, hfn, hvars]; rfl
    · exact ok_one hres rfl (okWide_bool_mk htb _)
    · refine ⟨[] ++ p, [], trodAll_append (trodAll_stays hl (fun x hx => hb.same hx) hr hA (fun x hx => ⟨hlt x hx, rfl⟩)) (by rw [hres]; exact trodAll_cons_mk (shut_bool htb _) rfl), by rw [hvars]; rfl, by simp, ?_, fun ha => by simpa using hnd ha⟩
      intro b off hx
      have hx : MemPlace.cell b off ∈ p := by simpa using hx
      rw [hb.frozen (hlt _ hx)]
      exact hfz b off hx
end

/-- A row without anything: nil, or not. -/
theorem Spec.nil_or {P : Program} {f : FuncId} {sz : Nat} {g : Nat → List V} {r : V} {bx1 : List (Nat × Box)} (h1 : Spec P f 0 [.nilsl] [] r bx1) (h2 : Spec P f 0 [.esl] [] r bx1) : Spec P f 0 [.seq sz 0 g] [] r bx1 :=
  ⟨h1.1, fun E σ vals hm hf hs hc => by
    obtain ⟨v, hv, cv⟩ := hc 0 _ rfl
    cases cv with
    | data h =>
      cases h with
      | seq o b off c u ho hnc hl hc' hd hz =>
        cases o with
        | none =>
          have := hz rfl
          subst this
          refine h1.2 E σ vals hm hf hs fun j s hj => ?_
          cases j with
          | zero => simp at hj; subst hj; exact ⟨_, hv, .data .nilsl⟩
          | succ j => simp at hj
        | some a =>
          refine h2.2 E σ vals hm hf hs fun j s hj => ?_
          cases j with
          | zero => simp at hj; subst hj; exact ⟨_, hv, .data (.esl a c)⟩
          | succ j => simp at hj⟩

/-- A contract for arguments of which more is known. -/
theorem SpecD.args {P : Program} {f : FuncId} {ss rs : List V} {r : V} (h : SpecD P f rs r) (hl : LeL ss rs) : SpecD P f ss r :=
  ⟨h.1, fun E σ vals hm hf hs hc => h.2 E σ vals hm hf (by rw [hs, hl.get.1]) (fun j s hj => by
    obtain ⟨s', h1, h2⟩ := hl.get.2 j s hj
    obtain ⟨v, h3, h4⟩ := hc j s' h1
    exact ⟨v, h3, h2 _ _ _ _ h4⟩)⟩

theorem aget_one {B C : Box} {k : Nat} (h : aget [(0, B)] k = some C) : k = 0 ∧ C = B := by
  cases k with
  | zero => exact ⟨rfl, (Option.some.inj h).symm⟩
  | succ k => cases h

/-- A call's own row, told otherwise. -/
theorem SpecV.congr {P : Program} {f : FuncId} {args : List V} {ty sz n n' : Nat} {g g' : Nat → List V} (h : SpecV P f args ty sz n g) (hn : n = n') (hg : ∀ i, i < n → g i = g' i) : SpecV P f args ty sz n' g' := by
  subst hn
  refine ⟨h.1, fun E σ vals hm hf hs hc => (h.2 E σ vals hm hf hs hc).mono fun e w' hq => ?_⟩
  obtain ⟨v, σ', he, hk, hcv, hmem⟩ := hq
  have hb : ∀ b, badOf E σ' [(0, .vec ty sz n g)] b ↔ badOf E σ' [(0, .vec ty sz n g')] b := fun b => by
    constructor
    · rintro (h1 | ⟨k, B, h1, h2⟩)
      · exact .inl h1
      · obtain ⟨rfl, rfl⟩ := aget_one h1; exact .inr ⟨0, _, rfl, h2⟩
    · rintro (h1 | ⟨k, B, h1, h2⟩)
      · exact .inl h1
      · obtain ⟨rfl, rfl⟩ := aget_one h1; exact .inr ⟨0, _, rfl, h2⟩
  have hb' : badOf E σ' [(0, .vec ty sz n g)] = badOf E σ' [(0, .vec ty sz n g')] := funext fun b => propext (hb b)
  refine ⟨v, σ', he, hk, hb' ▸ hcv, ⟨fun k B hB => ?_, fun k B b hB => ?_, fun k k' B B' b hB hB' => ?_, hmem.os, hmem.tape, hmem.output, hmem.size, hmem.old, hmem.hbad⟩⟩
  · obtain ⟨rfl, rfl⟩ := aget_one hB
    exact hb' ▸ LeB.vec rfl hg _ _ _ _ (hmem.box 0 _ rfl)
  · obtain ⟨rfl, rfl⟩ := aget_one hB
    exact hmem.own 0 _ b rfl
  · obtain ⟨rfl, rfl⟩ := aget_one hB
    obtain ⟨rfl, rfl⟩ := aget_one hB'
    intros; rfl

/-- Nil is a row without anything. -/
theorem SpecV.of_nil {P : Program} {f : FuncId} {args : List V} {ty sz : Nat} {g : Nat → List V} (h : SpecD P f args .nilsl) : SpecV P f args ty sz 0 g := by
  refine ⟨h.1, fun E σ vals hm hf hs hc => (h.2 E σ vals hm hf hs hc).mono fun e w' hq => ?_⟩
  obtain ⟨v, σ', he, hk, hcv, hmem⟩ := hq
  obtain rfl : v = .slice none 0 0 := by
    cases hcv with
    | data h => cases h; rfl
  refine ⟨_, fun k => if k = 0 then some (.slice none 0 0) else σ' k, he, fun k hk => absurd hk (Nat.not_lt_zero k), .vec _ rfl, ⟨fun k B hB => ?_, fun k B b hB hb => ?_, fun k k' B B' b hB hB' hb => ?_, hmem.os, hmem.tape, hmem.output, hmem.size, hmem.old, hmem.hbad⟩⟩
  · obtain ⟨rfl, rfl⟩ := aget_one hB
    exact .vec (.slice none 0 0) [] rfl ⟨by simp, .inl ⟨rfl, rfl⟩⟩ (fun i hi => absurd hi (Nat.not_lt_zero i)) (fun i j s hi => absurd hi (Nat.not_lt_zero i))
  · obtain ⟨rfl, rfl⟩ := aget_one hB
    cases hb
  · obtain ⟨rfl, rfl⟩ := aget_one hB
    cases hb
end Go.Hb
