/-
  THE SYMBOLIC LAYER, PART T: running on to the next loop's head or the end ('run'), from the start or from a loop's head ('segAt', 'segEnd', 'segVec').
-/
import Derived.Test.YtfcdfbafgmegfaaSyS
namespace Go.Hb
open Go.RowKit

inductive Out where
  | done (S : St)
  | at (todo : List Item) (S : St)

def getL {α : Type} (l : List (Nat × List α)) (n : Nat) : List α :=
  match aget l n with
  | some l => l
  | none => []

/-- On to the next loop's head, or the end. 'pre': what is done to the state ahead of a region; 'sc': for each region its operations' answers; 'stop': regions to stop at. -/
def run (P : Program) (m : Nat) (pre : List (Nat × List Pre)) (sc : List (Nat × List (Nat × An))) (stop : List Nat) : Nat → List Item → St → Option (Out × List Prop)
  | 0, _, _ => none
  | n + 1, todo, S => match todo with
    | [] => some (.done S, [])
    | .code .ret :: _ => some (.done S, [])
    | .code .skip :: k => run P m pre sc stop n k S
    | .inBlock _ :: k => run P m pre sc stop n k S
    | .code (.seq a b) :: k => run P m pre sc stop n (.code a :: .code b :: k) S
    | .code (.cond c x y) :: k => match evo S.fr c with
      | some (.tt true) => run P m pre sc stop n (.code x :: k) S
      | some (.tt false) => run P m pre sc stop n (.code y :: k) S
      | _ => none
    | .code (.block id c) :: k => run P m pre sc stop n (.code c :: .inBlock id :: k) S
    | .code (.loop c) :: k => some (.at (.code c :: .inLoop c :: k) S, [])
    | .inLoop c :: k => some (.at (.code c :: .inLoop c :: k) S, [])
    | .code (.exit id) :: k => match exitTo id k with
      | some k' => run P m pre sc stop n k' S
      | none => none
    | .code (.region id ops draw) :: k => match memB id stop with
      | true => some (.at (.code (.region id ops draw) :: k) S, [])
      | false => match pres P m (getL pre id) S with
        | some S => match region P S.nx ops draw (getL sc id) S with
          | some (S', obs) => match run P m pre sc stop n k S' with
            | some (out, obs') => some (out, obs ++ obs')
            | none => none
          | none => none
        | none => none
    | _ => none

section
variable {P : Program} {f : FuncId} {m : Nat} {res : V} {bx1 : List (Nat × Box)} {E : Env} {σ σ' : Nat → Option Value} {S S' : St} {a : Act} {w : World}

def Next (P : Program) (f : FuncId) (m : Nat) (res : V) (bx1 : List (Nat × Box)) : Out → Prop
  | .done S => Fin P f m res bx1 S
  | .at todo S => GoTo P f m res bx1 todo S

theorem run_ok (hm : P.follows .mixedOrders = true) {pre : List (Nat × List Pre)} {sc : List (Nat × List (Nat × An))} {stop : List Nat} : ∀ {n : Nat} {todo : List Item} {S : St} {out : Out} {obs : List Prop}, run P m pre sc stop n todo S = some (out, obs) → AllP obs → Next P f m res bx1 out → GoTo P f m res bx1 todo S
  | 0, _, _, _, _, h, _, _ => by simp [run] at h
  | n + 1, todo, S, out, obs, h, ho, hn => by
    unfold run at h
    split at h
    · injection h with h; injection h with h1 h2; subst h1
      exact GoTo.fin (fun b a cs w => ⟨[], step_end⟩) hn
    · injection h with h; injection h with h1 h2; subst h1
      exact GoTo.fin (fun b a cs w => ⟨_, step_ret⟩) hn
    · exact GoTo.onto (fun b a cs w => step_skip) (run_ok hm h ho hn)
    · exact GoTo.onto (fun b a cs w => step_inBlock) (run_ok hm h ho hn)
    · exact GoTo.onto (fun b a cs w => step_seq) (run_ok hm h ho hn)
    · rename_i c x y k
      have hcond : ∀ t, evo S.fr c = some (.tt t) → GoTo P f m res bx1 (.code (if t then x else y) :: k) S → GoTo P f m res bx1 (.code (.cond c x y) :: k) S := by
        intro t hc hg E σ a w b cs hb hk hr hf hnx
        have hv := evo_ok (Sub.refl S) hr hc
        have hv' : a.eval c = .bool t := by
          generalize a.eval c = v at hv
          cases hv with
          | data hd => cases hd; rfl
        obtain ⟨e, w', fr, h1, h2⟩ := hg E σ a w b cs hb hk hr hf hnx
        exact ⟨e, w', fr, h1.of_steps (.one (step_cond hv')), h2⟩
      split at h
      · rename_i hc
        exact hcond true hc (run_ok hm h ho hn)
      · rename_i hc
        exact hcond false hc (run_ok hm h ho hn)
      · cases h
    · exact GoTo.onto (fun b a cs w => step_block) (run_ok hm h ho hn)
    · injection h with h; injection h with h1 h2; subst h1
      exact GoTo.onto (fun b a cs w => step_loop) hn
    · injection h with h; injection h with h1 h2; subst h1
      exact GoTo.onto (fun b a cs w => step_inLoop) hn
    · rename_i id k
      split at h
      · rename_i k' hex
        exact GoTo.onto (fun b a cs w => step_exit hex) (run_ok hm h ho hn)
      · cases h
    · rename_i id ops draw k
      split at h
      · injection h with h; injection h with h1 h2; subst h1; exact hn
      · split at h
        · rename_i S0 hpre
          refine GoTo.pres hpre ?_
          split at h
          · rename_i S1 obs1 hreg
            split at h
            · rename_i out1 obs2 hrun
              injection h with h; injection h with h1 h2; subst h1 h2
              obtain ⟨ho1, ho2⟩ := allP_append.1 ho
              intro E σ a w b cs hb hk hr hf hnx
              obtain ⟨e0, a1, w1, ⟨rfl, σ1, hr1, hlt, hge⟩, harr⟩ := wp_region_sym (id := id) hm hreg ho1 hr hf b k cs
              have hnx1 := region_nx hreg
              obtain ⟨e, w', fr, h1, h2, h3, v, σ', h4, h5, h6⟩ := run_ok hm hrun ho2 hn E σ1 a1 w1 b cs hb hk hr1 (by rw [hnx1]; exact hge) (by omega)
              exact ⟨e, w', fr, h1.of_steps harr, h2, h3, v, σ', h4, fun q hq => by rw [h5 q hq, hlt q (by omega)], h6⟩
            · cases h
          · cases h
        · cases h
    · cases h

/-- To the next loop's head, of which some slots and boxes are told. -/
def segAt (P : Program) (m : Nat) (pre : List (Nat × List Pre)) (sc : List (Nat × List (Nat × An))) (stop : List Nat) (ps : List Pre) (nx : Nat) (fs : List Nat) (R : List (Nat × Nat)) (todo : List Item) (S : St) : Option (List Item × St × List Prop) :=
  match run P m pre sc stop 10000 todo S with
  | some (.at todo' S1, obs) => match pres P m ps S1 with
    | some S2 => match sel m nx fs R S2 with
      | some S3 => some (todo', S3, obs)
      | none => none
    | none => none
  | _ => none

theorem GoTo.segAt (hm : P.follows .mixedOrders = true) {pre : List (Nat × List Pre)} {sc : List (Nat × List (Nat × An))} {stop : List Nat} {ps : List Pre} {nx : Nat} {fs : List Nat} {R : List (Nat × Nat)} {todo todo' : List Item} {obs : List Prop}
    (he : segAt P m pre sc stop ps nx fs R todo S = some (todo', S', obs)) (ho : AllP obs) (h : GoTo P f m res bx1 todo' S') : GoTo P f m res bx1 todo S := by
  unfold Hb.segAt at he
  split at he
  · rename_i todo1 S1 obs1 hrun
    split at he
    · rename_i S2 h2
      split at he
      · rename_i S3 h3
        injection he with he; injection he with e1 he; injection he with e2 e3
        subst e1 e2 e3
        exact run_ok hm hrun ho (show GoTo P f m res bx1 _ S1 from GoTo.pres h2 (GoTo.sel h3 h))
      · cases he
    · cases he
  · cases he

/-- To the end, with plain data. -/
def segEnd (P : Program) (fn : Func) (pre : List (Nat × List Pre)) (sc : List (Nat × List (Nat × An))) (ps : List Pre) (todo : List Item) (S : St) : Option (V × List Prop) :=
  match run P 0 pre sc [] 10000 todo S with
  | some (.done S1, obs) => match pres P 0 ps S1 with
    | some S2 => match evRes P S2 fn.results.toList with
      | some rs => some (packRes rs, obs)
      | none => none
    | none => none
  | _ => none

theorem Fin.pres : ∀ {l : List Pre} {S S' : St}, Hb.pres P 0 l S = some S' → Fin P f 0 res bx1 S' → Fin P f 0 res bx1 S
  | [], S, S', he, h => by simp [Hb.pres] at he; subst he; exact h
  | p :: l, S, S', he, h => by
    unfold Hb.pres at he
    split at he
    · rename_i S1 hp h1
      obtain ⟨fn, hfn, h2⟩ := Fin.pres he h
      refine ⟨fn, hfn, fun E σ a w hr hf hnx => ?_⟩
      obtain ⟨σ1, g1, g2, g3, g4⟩ := pre1_rel h1 hr
      obtain ⟨v, σ', k1, k2, k3⟩ := h2 E σ1 a w g1 (fun k hk => g2 k (hf k (by omega))) (by omega)
      exact ⟨v, σ', k1, fun k hk => absurd hk (Nat.not_lt_zero k), k3⟩
    · cases he

theorem GoTo.segEnd (hm : P.follows .mixedOrders = true) {fn : Func} (hf : P.funcs[f]? = some fn) {pre : List (Nat × List Pre)} {sc : List (Nat × List (Nat × An))} {ps : List Pre} {todo : List Item} {r : V} {obs : List Prop}
    (he : segEnd P fn pre sc ps todo S = some (r, obs)) (ho : AllP obs) (hle : Le r res) : GoTo P f 0 res [] todo S := by
  unfold Hb.segEnd at he
  split at he
  · rename_i S1 obs1 hrun
    split at he
    · rename_i S2 h2
      split at he
      · rename_i rs h3
        injection he with he; injection he with e1 e2
        subst e1 e2
        exact run_ok hm hrun ho (show Fin P f 0 res [] S1 from Fin.pres h2 (fin_of (obs := []) hf h3 hle rfl trivial))
      · cases he
    · cases he
  · cases he

/-- To the end, with a row of one's own. -/
def segVec (P : Program) (fn : Func) (pre : List (Nat × List Pre)) (sc : List (Nat × List (Nat × An))) (ps : List Pre) (todo : List Item) (S : St) : Option (Box × List Prop) :=
  match run P 0 pre sc [] 10000 todo S with
  | some (.done S1, obs) => match pres P 0 ps S1 with
    | some S2 => match evRes P S2 fn.results.toList with
      | some [.vec k] => match aget S2.bx k with
        | some B => some (B, obs)
        | none => none
      | _ => none
    | none => none
  | _ => none

theorem GoTo.segVec (hm : P.follows .mixedOrders = true) {fn : Func} (hf : P.funcs[f]? = some fn) {pre : List (Nat × List Pre)} {sc : List (Nat × List (Nat × An))} {ps : List Pre} {todo : List Item} {obs : List Prop} {ty sz n n' : Nat} {g g' : Nat → List V}
    (he : segVec P fn pre sc ps todo S = some (.vec ty sz n g, obs)) (ho : AllP obs) (hn : n = n') (hg : ∀ i, i < n → g i = g' i) : GoTo P f 0 (.vec 0) [(0, .vec ty sz n' g')] todo S := by
  unfold Hb.segVec at he
  split at he
  · rename_i S1 obs1 hrun
    split at he
    · rename_i S2 h2
      split at he
      · rename_i k h3
        split at he
        · rename_i B h4
          injection he with he; injection he with e1 e2
          subst e1 e2
          exact run_ok hm hrun ho (show Fin P f 0 _ _ S1 from Fin.pres h2 (fin_vec hf h3 h4 hn hg))
        · cases he
      · cases he
    · cases he
  · cases he

/-- From this point on the function hands back data of which Q holds. -/
def GoToE (P : Program) (f : FuncId) (Q : V → Prop) (todo : List Item) (S : St) : Prop := ∃ res, Q res ∧ GoTo P f 0 res [] todo S
/-- Likewise a row of its own. -/
def GoToV (P : Program) (f : FuncId) (ty sz : Nat) (Q : Nat → (Nat → List V) → Prop) (todo : List Item) (S : St) : Prop := ∃ n g, Q n g ∧ GoTo P f 0 (.vec 0) [(0, .vec ty sz n g)] todo S

theorem GoToE.segAt (hm : P.follows .mixedOrders = true) {Q : V → Prop} {pre : List (Nat × List Pre)} {sc : List (Nat × List (Nat × An))} {stop : List Nat} {ps : List Pre} {nx : Nat} {fs : List Nat} {R : List (Nat × Nat)} {todo todo' : List Item} {obs : List Prop}
    (he : Hb.segAt P 0 pre sc stop ps nx fs R todo S = some (todo', S', obs)) (ho : AllP obs) (h : GoToE P f Q todo' S') : GoToE P f Q todo S :=
  let ⟨r, hq, h⟩ := h
  ⟨r, hq, h.segAt hm he ho⟩
theorem GoToE.segEnd (hm : P.follows .mixedOrders = true) {Q : V → Prop} {fn : Func} (hf : P.funcs[f]? = some fn) {pre : List (Nat × List Pre)} {sc : List (Nat × List (Nat × An))} {ps : List Pre} {todo : List Item} {r : V} {obs : List Prop}
    (he : Hb.segEnd P fn pre sc ps todo S = some (r, obs)) (ho : AllP obs) (hq : Q r) : GoToE P f Q todo S :=
  ⟨r, hq, .segEnd hm hf he ho (Le.refl r)⟩
theorem GoToV.segAt (hm : P.follows .mixedOrders = true) {ty sz : Nat} {Q : Nat → (Nat → List V) → Prop} {pre : List (Nat × List Pre)} {sc : List (Nat × List (Nat × An))} {stop : List Nat} {ps : List Pre} {nx : Nat} {fs : List Nat} {R : List (Nat × Nat)} {todo todo' : List Item} {obs : List Prop}
    (he : Hb.segAt P 0 pre sc stop ps nx fs R todo S = some (todo', S', obs)) (ho : AllP obs) (h : GoToV P f ty sz Q todo' S') : GoToV P f ty sz Q todo S :=
  let ⟨n, g, hq, h⟩ := h
  ⟨n, g, hq, h.segAt hm he ho⟩
theorem GoToV.segVec (hm : P.follows .mixedOrders = true) {Q : Nat → (Nat → List V) → Prop} {fn : Func} (hf : P.funcs[f]? = some fn) {pre : List (Nat × List Pre)} {sc : List (Nat × List (Nat × An))} {ps : List Pre} {todo : List Item} {obs : List Prop} {ty sz n : Nat} {g : Nat → List V}
    (he : Hb.segVec P fn pre sc ps todo S = some (.vec ty sz n g, obs)) (ho : AllP obs) (hq : Q n g) : GoToV P f ty sz Q todo S :=
  ⟨n, g, hq, .segVec hm hf he ho rfl fun _ _ => rfl⟩

/-- A contract of which one thing is known of the result. -/
def SpecE (P : Program) (f : FuncId) (args : List V) (Q : V → Prop) : Prop := ∃ r, Q r ∧ SpecD P f args r
def SpecW (P : Program) (f : FuncId) (args : List V) (ty sz : Nat) (Q : Nat → (Nat → List V) → Prop) : Prop := ∃ n g, Q n g ∧ SpecV P f args ty sz n g

theorem specE_of {fn : Func} {args : List V} {Q : V → Prop} (hf : P.funcs[f]? = some fn) (hname : (fn.name == "runtime.NumGoroutine") = false) (hb : fn.body = some (bodyOf fn)) (hn : Nat.ble args.length fn.ntmps = true)
    (h : GoToE P f Q [.code (bodyOf fn)] (St0 fn 0 args [])) : SpecE P f args Q :=
  let ⟨r, hq, h⟩ := h
  ⟨r, hq, spec_of hf hname hb (Nat.le_of_ble_eq_true hn) h⟩
theorem specW_of {fn : Func} {args : List V} {ty sz : Nat} {Q : Nat → (Nat → List V) → Prop} (hf : P.funcs[f]? = some fn) (hname : (fn.name == "runtime.NumGoroutine") = false) (hb : fn.body = some (bodyOf fn)) (hn : Nat.ble args.length fn.ntmps = true)
    (h : GoToV P f ty sz Q [.code (bodyOf fn)] (St0 fn 0 args [])) : SpecW P f args ty sz Q :=
  let ⟨n, g, hq, h⟩ := h
  ⟨n, g, hq, spec_of hf hname hb (Nat.le_of_ble_eq_true hn) h⟩
theorem GoToE.mono {Q Q' : V → Prop} {todo : List Item} (h : ∀ r, Q r → Q' r) (g : GoToE P f Q todo S) : GoToE P f Q' todo S :=
  let ⟨r, hq, g⟩ := g
  ⟨r, h r hq, g⟩
theorem SpecE.eq {args : List V} {r : V} (h : SpecE P f args (Eq r)) : SpecD P f args r := by
  obtain ⟨_, rfl, h⟩ := h; exact h

def arep {α : Type} : List (Nat × α) → Nat → α → List (Nat × α)
  | [], _, _ => []
  | (k, x) :: l, n, y => match Nat.beq k n with
    | true => (k, y) :: l
    | false => (k, x) :: arep l n y

theorem aget_arep {α : Type} : ∀ (l : List (Nat × α)) (n m : Nat) (y : α), aget (arep l n y) m = if m = n ∧ (aget l n).isSome then some y else aget l m
  | [], n, m, y => by simp [arep, aget]
  | (k, x) :: l, n, m, y => by
    unfold arep
    split
    · rename_i hb
      rw [Nat.beq_eq] at hb; subst hb
      simp only [aget]
      by_cases hm : m = k
      · subst hm; simp
      · have : Nat.beq k m = false := by rw [← Bool.not_eq_true, Nat.beq_eq]; omega
        simp [this, hm]
    · rename_i hb
      have hne : k ≠ n := by rw [← Bool.not_eq_true, Nat.beq_eq] at hb; exact hb
      simp only [aget, hb]
      split
      · rename_i hkm
        rw [Nat.beq_eq] at hkm; subst hkm
        simp [hne]
      · exact aget_arep l n m y

/-- A row of one's own, said otherwise. -/
theorem GoTo.reVec {todo : List Item} {k ty sz n n' : Nat} {g g' : Nat → List V} (h0 : aget S.bx k = some (.vec ty sz n g)) (hn : n = n') (hg : ∀ i, i < n → g i = g' i) (h : GoTo P f m res bx1 todo { S with bx := arep S.bx k (.vec ty sz n' g') }) : GoTo P f m res bx1 todo S := by
  intro E σ a w b cs hb hk hr hf hnx
  refine h E σ a w b cs hb hk ?_ hf hnx
  have hget : ∀ q B, aget (arep S.bx k (.vec ty sz n' g')) q = some B → ∃ C, aget S.bx q = some C ∧ LeB C B := by
    intro q B hq
    rw [aget_arep] at hq
    split at hq
    · rename_i hqk
      obtain ⟨rfl, _⟩ := hqk
      injection hq with hq; subst hq
      exact ⟨_, h0, .vec hn hg⟩
    · exact ⟨B, hq, .refl B⟩
  have hbad : ∀ b, ¬ badOf E σ S.bx b → ¬ badOf E σ (arep S.bx k (.vec ty sz n' g')) b := by
    intro b hn
    rintro (h1 | ⟨q, B, hq, hqb⟩)
    · exact hn (.inl h1)
    · obtain ⟨C, hC, _⟩ := hget q B hq
      exact hn (.inr ⟨q, C, hC, hqb⟩)
  have hmono : ∀ b, b < w.heap.size → ¬ badOf E σ S.bx b → ¬ badOf E σ (arep S.bx k (.vec ty sz n' g')) b ∧ w.heap[b]? = w.heap[b]? := fun b _ hn => ⟨hbad b hn, rfl⟩
  refine ⟨⟨fun q B hq => ?_, fun q B b hq hqb => ?_, fun q q' B B' b hq hq' hqb hqb' => ?_, hr.os, hr.tape, hr.output, hr.size, hr.old, hr.hbad⟩, hr.dfs, hr.nt, fun t s hs => ?_⟩
  · obtain ⟨C, hC, hle⟩ := hget q B hq
    exact (hle _ _ _ _ (hr.box q C hC)).mono (fun _ _ h => h) hmono (fun _ _ => rfl)
  · obtain ⟨C, hC, _⟩ := hget q B hq
    exact hr.own q C b hC hqb
  · obtain ⟨C, hC, _⟩ := hget q B hq
    obtain ⟨C', hC', _⟩ := hget q' B' hq'
    exact hr.dist q q' C C' b hC hC' hqb hqb'
  · obtain ⟨v, hv, hc⟩ := hr.fr t s hs
    exact ⟨v, hv, hc.mono (fun _ _ h => h) hmono⟩

theorem GoToE.reVec {Q : V → Prop} {todo : List Item} (k : Nat) {ty sz n n' : Nat} {g g' : Nat → List V} (h0 : aget S.bx k = some (.vec ty sz n g)) (hn : n = n') (hg : ∀ i, i < n → g i = g' i) (h : GoToE P f Q todo { S with bx := arep S.bx k (.vec ty sz n' g') }) : GoToE P f Q todo S :=
  let ⟨r, hq, h⟩ := h
  ⟨r, hq, h.reVec h0 hn hg⟩
theorem GoToV.reVec {Q : Nat → (Nat → List V) → Prop} {ty0 sz0 : Nat} {todo : List Item} (k : Nat) {ty sz n n' : Nat} {g g' : Nat → List V} (h0 : aget S.bx k = some (.vec ty sz n g)) (hn : n = n') (hg : ∀ i, i < n → g i = g' i) (h : GoToV P f ty0 sz0 Q todo { S with bx := arep S.bx k (.vec ty sz n' g') }) : GoToV P f ty0 sz0 Q todo S :=
  let ⟨r, g, hq, h⟩ := h
  ⟨r, g, hq, h.reVec h0 hn ‹_›⟩

/-- Less is known of the result. -/
theorem Spec.le {args : List V} {r r' : V} (h : SpecD P f args r) (hle : Le r r') : SpecD P f args r' := by
  refine ⟨h.1, fun E σ vals hm hσ hs hv => (h.2 E σ vals hm hσ hs hv).mono ?_⟩
  rintro e w' ⟨v, σ', h1, h2, h3, h4⟩
  exact ⟨v, σ', h1, h2, hle _ _ _ _ h3, h4⟩
theorem SpecE.le {args : List V} {r : V} (h : SpecE P f args (fun x => Le x r)) : SpecD P f args r :=
  let ⟨_, hq, h⟩ := h
  Spec.le h hq
end
end Go.Hb
