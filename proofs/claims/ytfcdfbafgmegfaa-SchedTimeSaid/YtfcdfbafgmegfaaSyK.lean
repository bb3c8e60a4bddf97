/-
  THE SYMBOLIC LAYER, PART K: one operation ('exec1'), calls by contract ('Spec'), the operations of a region in the order of the text.
-/
import Derived.Test.YtfcdfbafgmegfaaSyJ
namespace Go.Hb
open Go.RowKit

/-- A call of f enters f. -/
def Enters (P : Program) (f : FuncId) : Prop := ∀ (args : Array Value) (w : World), (callFunc f args).run P w = .ok (.enter f args) w

theorem enters_of {P : Program} {f : FuncId} {fn : Func} {c : Code} (hf : P.funcs[f]? = some fn) (hname : (fn.name == "runtime.NumGoroutine") = false) (hb : fn.body = some c) : Enters P f := by
  intro args w
  have h1 : fn.name ≠ "runtime.NumGoroutine" := by simpa using hname
  simp [callFunc, hf, h1, hb, mark]

/-- A call's contract: with these arguments, and m boxes of the caller's (keys 0 .. m-1), it hands back 'res' and leaves the boxes 'bx1'. -/
def Spec (P : Program) (f : FuncId) (m : Nat) (args : List V) (bx : List (Nat × Box)) (res : V) (bx1 : List (Nat × Box)) : Prop :=
  Enters P f ∧ ∀ (E : Env) (σ : Nat → Option Value) (vals : Array Value), Mem E σ bx E.w0 → (∀ k, m ≤ k → σ k = none) → vals.size = args.length →
    (∀ (j : Nat) (s : V), args[j]? = some s → ∃ v, vals[j]? = some v ∧ CV σ E.w0 (badOf E σ bx) s v) →
    Calls P f vals E.w0 fun e w' => ∃ v σ', e = .returned v ∧ (∀ k, k < m → σ' k = σ k) ∧ CV σ' w' (badOf E σ' bx1) res v ∧ Mem E σ' bx1 w'

/-- The plain contract: data in, data out. -/
abbrev SpecD (P : Program) (f : FuncId) (args : List V) (res : V) : Prop := Spec P f 0 args [] res []

/-- Data in; out comes a row of the call's own. -/
abbrev SpecV (P : Program) (f : FuncId) (args : List V) (ty sz n : Nat) (g : Nat → List V) : Prop := Spec P f 0 args [] (.vec 0) [(0, .vec ty sz n g)]

/-- What a script says of a call besides: 'Ans.val r': data; 'Ans.val (.vec 0)' with a row: by 'AnsV'. -/
inductive An where
  | no
  | dec (b : Bool)
  | val (s : V)
  | vdec (s : V) (b : Bool)
  | row (ty sz n : Nat) (g : Nat → List V)

/-- A told value that is decided besides. -/
def An.base : An → An
  | .vdec s _ => .val s
  | a => a
def An.decB : An → Option Bool
  | .dec b => some b
  | .vdec _ b => some b
  | _ => none

def An.toAns : An → Ans
  | .val s => .val s
  | .dec b => .dec b
  | _ => .no

def ltAll (n : Nat) : List V → Bool := V.ltL n

def evCall (P : Program) (key : Nat) (f : V) (args : List V) (ans : An) : Option (Eff × List Prop) :=
  match f with
  | .fn g caps => match V.ltL 0 (args ++ caps) with
    | true => match ans with
      | .val r => match V.ltB 0 r with
        | true => some (.val r, [SpecD P g (args ++ caps) r])
        | false => none
      | .row ty sz n h => some (.new (.vec ty sz n h) (.vec key), [SpecV P g (args ++ caps) ty sz n h])
      | _ => none
    | false => none
  | _ => none

def bytesOf (ns : List Int) : ByteArray := ns.foldl (fun r n => r.push (UInt8.ofNat n.toNat)) ByteArray.empty
def u8s : List V → Option (List Int)
  | [] => some []
  | .int .u8 x :: l => match u8s l with
    | some r => some (x :: r)
    | none => none
  | _ => none
def u8At : List V → Int
  | [.int .u8 x] => x
  | _ => 0

/-- A row of bytes as a text. -/
def evBytes (P : Program) (S : St) (src dst : TypeId) (x : Operand) : Option (V × List Prop) :=
  match P.underlying src, P.underlying dst with
  | some (.slice e), some .string => match P.underlying e, evo S.fr x with
    | some (.int .u8), some (.row k off len _) => match aget S.bx k with
      | some (.cells _ l) => match u8s ((l.drop off).take len) with
        | some ns => match Nat.beq ns.length len with
          | true => some (.str (bytesOf ns), [])
          | false => none
        | none => none
      | _ => none
    | some (.int .u8), some (.seq 1 n f) => some (.str (bytesOf ((List.range n).map fun i => u8At (f i))), [0 < n, ∀ i, i < n → f i = [.int .u8 (u8At (f i))]])
    | _, _ => none
  | _, _ => none

def exec0 (P : Program) (key : Nat) (ans : An) (op : Op) (S : St) : Option (Eff × List Prop) :=
  match op with
  | .alloc t => match evAlloc P key t with
    | some e => some (e, [])
    | none => none
  | .box t x => match evBox S key t x with
    | some e => some (e, [])
    | none => none
  | .build t ps => match evBuild P S t ps with
    | some s => some (.val s, [])
    | none => none
  | .buildSlice t n ps => match evBuildSlice P S key t n ps with
    | some e => some (e, [])
    | none => none
  | .store t x v => evStore P S t x v ans.toAns
  | .makeSlice t l c => evMakeSlice P S key t l c
  | .makeMap t r => match evMakeMap P key t r with
    | some e => some (e, [])
    | none => none
  | .lookup t m k c => match evLookup P S t m k c with
    | some s => match ans with
      | .val r => some (.val r, [s = r])
      | _ => some (.val s, [])
    | none => none
  | .mapUpdate t m k x => match evMapUpdate P S t m k x with
    | some e => some (e, [])
    | none => none
  | .insert t m k x => match evMapUpdate P S t m k x with
    | some e => some (e, [])
    | none => none
  | .convert src dst x => match evBytes P S src dst x with
    | some (s, obs) => some (.val s, obs)
    | none => match evR P S (.convert src dst x) ans.toAns with
      | some (s, obs) => some (.val s, obs)
      | none => none
  | .call c => match c.callee with
    | .value f => match evo S.fr f, evList S.fr c.args.toList with
      | some f, some args => evCall P key f args ans
      | _, _ => none
    | .builtin .append => match c.args.toList, c.argTypes.toList with
      | [x, y], [t, t'] => match Nat.beq t t', evo S.fr x, evo S.fr y with
        | true, some s, some r => evAppend P S key t s r
        | _, _, _ => none
      | _, _ => none
    | .builtin _ => match evR P S (.call c) ans.toAns with
      | some (s, obs) => some (.val s, obs)
      | none => none
    | _ => none
  | op => match evR P S op ans.toAns with
    | some (s, obs) => some (.val s, obs)
    | none => none

/-- One operation; where the script decides a bool, the fact is owed. -/
def exec1 (P : Program) (key : Nat) (ans : An) (op : Op) (S : St) : Option (Eff × List Prop) :=
  match exec0 P key ans.base op S with
  | some (.val (.bool b), obs) => match ans.decB with
    | some β => some (.val (.tt β), (b = β) :: obs)
    | none => some (.val (.bool b), obs)
  | r => r

section
variable {P : Program} {E : Env} {σ σ' : Nat → Option Value} {S V0 : St} {a : Act} {w w' : World} {bad : Nat → Prop} {key : Nat} {dst : Option Tmp}

theorem evMove_ok {x : Operand} {r : V} {obs : List Prop} (h : (match evo V0.fr x with | some s => some (s, ([] : List Prop)) | none => some (V.junk, [])) = some (r, obs)) (hs : Sub V0 S) (hr : Rel E σ S a w) :
    CV σ w (badOf E σ S.bx) r (a.eval x) := by
  split at h
  · rename_i s hx
    injection h with h; injection h with h1 h2; subst h1
    exact evo_ok hs hr hx
  · injection h with h; injection h with h1 h2; subst h1
    exact .junk

theorem sure_run {s : V} (h : s.sure = true) {v : Value} (hv : CV σ w bad s v) : (match v with
    | .pointer none | .nilIface | .nilFunc => (runtimePanic .nilDeref : Sem Next)
    | .func (.method name) first captured => 
      match (first[0]? : Option Value) with
      | some .nilIface => runtimePanic .nilDeref
      | some (.iface t w) => do
        if (← nilAhead ((← program).types.size + Made.depth) t w name) != some false then
          unsupported (.noEntry "op/nilCheck.the method's receiver behind this interface value is a nil pointer, or cannot be seen to be none, and the arguments act or may panic (ledger 612)")
        pure (.value (.func (.method name) first captured))
      | _ => pure (.value (.func (.method name) first captured))
    | x => pure (.value x)).run P w = .ok (.value v) w := by
  cases hv with
  | data hd => cases hd <;> first | rfl | simp [V.sure] at h
  | ptr | elp | vptr | fn => rfl
  | _ => simp [V.sure] at h

theorem evR_ok {o : Oper} {ans : Ans} {r : V} {obs : List Prop} (he : evR P V0 o.op ans = some (r, obs)) (ho : AllP obs) (hs : Sub V0 S) (h : Rel E σ S a w) :
    ∃ v, (execOp a.eval o).run P w = .ok (.value v) w ∧ CV σ w (badOf E σ S.bx) r v := by
  unfold evR at he
  unfold execOp
  split at he
  · rename_i x hop
    simp only [hop]
    exact ⟨_, rfl, evMove_ok he hs h⟩
  · rename_i x hop
    simp only [hop]
    exact ⟨_, rfl, evMove_ok he hs h⟩
  · rename_i c p q hop
    simp only [hop]
    split at he
    · rename_i hc
      have hv := evo_ok hs h hc
      generalize a.eval c = vc at hv ⊢
      cases hv with
      | data hd => cases hd; exact ⟨_, rfl, evMove_ok he hs h⟩
    · rename_i hc
      have hv := evo_ok hs h hc
      generalize a.eval c = vc at hv ⊢
      cases hv with
      | data hd => cases hd; exact ⟨_, rfl, evMove_ok he hs h⟩
    · rename_i b hc
      have hv := evo_ok hs h hc
      generalize a.eval c = vc at hv ⊢
      cases hv with
      | data hd =>
        cases hd
        split at he
        · rename_i x y hx hy
          split at he
          · rename_i bx by' hbx hby
            injection he with he; injection he with h1 h2; subst h1
            refine ⟨_, rfl, ?_⟩
            rw [asB_ok hbx (evo_ok hs h hx), asB_ok hby (evo_ok hs h hy)]
            cases b <;> exact .data .bool
          · cases he
        · cases he
    · cases he
  · rename_i t x hop
    simp only [hop]
    obtain ⟨v, h1, h2⟩ := evLoad_ok he ho hs h
    exact ⟨v, by simp only [Sem.run_bind, h1, Result.andThen_ok]; rfl, h2⟩
  · rename_i x hop
    simp only [hop]
    split at he
    · rename_i s hx
      split at he
      · rename_i hsure
        injection he with he; injection he with h1 h2; subst h1
        have hv := evo_ok hs h hx
        exact ⟨_, sure_run hsure hv, hv⟩
      · cases he
    · cases he
  · rename_i op t x y ty hop
    simp only [hop]
    split at he
    · rename_i s r0 hx hy
      obtain ⟨v, h1, h2⟩ := run_evBin he ho x y (evo_ok hs h hx) (evo_ok hs h hy)
      exact ⟨v, by rw [Sem.run_bind, h1]; rfl, h2⟩
    · cases he
  · rename_i op t x hop
    simp only [hop]
    split at he
    · rename_i s hx
      split at he
      · rename_i r0 hr
        injection he with he; injection he with h1 h2; subst h1
        obtain ⟨v, h3, h4⟩ := run_evUn (P := P) hr (evo_ok hs h hx)
        exact ⟨v, by simp only [Sem.run_bind, h3, Result.andThen_ok]; rfl, h4⟩
      · cases he
    · cases he
  · rename_i src dst x hop
    simp only [hop]
    split at he
    · rename_i s hx
      split at he
      · rename_i r0 hr
        injection he with he; injection he with h1 h2; subst h1
        obtain ⟨v, h3, h4⟩ := run_evConv hr (evo_ok hs h hx)
        exact ⟨v, by simp only [Sem.run_bind, h3, Result.andThen_ok]; rfl, h4⟩
      · cases he
    · cases he
  · rename_i f first caps hop
    simp only [hop]
    split at he
    · rename_i l hf hl
      injection he with he; injection he with h1 h2; subst h1
      obtain ⟨h3, h4⟩ := evList_ok hs h hl
      have hfirst : first = #[] := by cases first; simp_all
      subst hfirst
      rw [show Array.map a.eval #[] = (#[] : Array Value) from by simp]
      refine ⟨_, rfl, CV.fn (l := l) (caps.map a.eval) (fun j => (caps.map a.eval).getD j undef) (by rw [h3]; simp) (fun j hj => ?_) fun j s hj => ?_⟩
      · have : j < caps.size := by rw [h3] at hj; simpa using hj
        simp [this]
      · obtain ⟨x, hx, hc⟩ := h4 j s hj
        have hx' : caps[j]? = some x := by simpa using hx
        simpa [hx'] using hc
    · cases he
  · rename_i t x lo hi mx hop
    simp only [hop]
    obtain ⟨v, h1, h2⟩ := run_evSlice he ho hs h
    exact ⟨v, by simp only [Sem.run_bind, h1, Result.andThen_ok]; rfl, h2⟩
  · rename_i t x f hop
    simp only [hop]
    split at he
    · rename_i r0 hr
      injection he with he; injection he with h1 h2; subst h1
      obtain ⟨v, h3, h4⟩ := evFieldAddr_ok hr hs h
      exact ⟨v, by simp only [Sem.run_bind, h3, Result.andThen_ok]; rfl, h4⟩
    · cases he
  · rename_i t x f hop
    simp only [hop]
    obtain ⟨v, h1, h2⟩ := run_evField he ho hs h
    exact ⟨v, by simp only [Sem.run_bind, h1, Result.andThen_ok]; rfl, h2⟩
  · rename_i t x i hop
    simp only [hop]
    obtain ⟨v, h1, h2⟩ := evIndexAddr_ok he ho hs h
    exact ⟨v, by simp only [Sem.run_bind, h1, Result.andThen_ok]; rfl, h2⟩
  · rename_i t x i hop
    simp only [hop]
    obtain ⟨v, h1, h2⟩ := run_evIndex he ho hs h
    exact ⟨v, by simp only [Sem.run_bind, h1, Result.andThen_ok]; rfl, h2⟩
  · rename_i x i hop
    simp only [hop]
    split at he
    · rename_i l hx
      split at he
      · rename_i s hl
        injection he with he; injection he with h1 h2; subst h1
        have hv := evo_ok hs h hx
        generalize a.eval x = vx at hv ⊢
        cases hv with
        | data hd => cases hd
        | tup vs u hsz hvs hd =>
          have hlt := (List.getElem?_eq_some_iff.1 hl).1
          refine ⟨u i, ?_, hd i s hl⟩
          simp [Instr.extract, hvs i hlt]
      · cases he
    · cases he
  · rename_i c hop
    simp only [hop]
    split at he
    · rename_i b hb
      split at he
      · rename_i r0 hr
        injection he with he; injection he with h1 h2; subst h1
        obtain ⟨v, h3, h4⟩ := run_evBuiltin hr hs h o.type (c.args.map fun | .const _ => true | _ => false)
        refine ⟨v, ?_, h4⟩
        have he2 : (c.args.toList.map a.eval).toArray = c.args.map a.eval := by rw [← Array.toList_map, Array.toArray_toList]
        rw [he2] at h3
        simp only [resolve, hb, Sem.run_bind, Sem.run_pure, Result.andThen_ok, invoke]
        exact h3
      · cases he
    · cases he
  · cases he
end
end Go.Hb
