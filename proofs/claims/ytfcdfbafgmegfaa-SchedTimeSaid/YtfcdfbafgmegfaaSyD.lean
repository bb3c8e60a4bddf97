/-
  THE SYMBOLIC LAYER, PART D: more operations that leave the memory alone: arithmetic, comparisons, conversions, cuts, lengths; all of them together: 'evR'.
-/
import Derived.Test.YtfcdfbafgmegfaaSyC
namespace Go.Hb
open Go.RowKit

def kIx : IntKind → Nat
  | .i8 => 0 | .i16 => 1 | .i32 => 2 | .i64 => 3 | .u8 => 4 | .u16 => 5 | .u32 => 6 | .u64 => 7
def kEq (a b : IntKind) : Bool := Nat.beq (kIx a) (kIx b)
theorem kEq_ok {a b : IntKind} (h : kEq a b = true) : a = b := by
  cases a <;> cases b <;> first | rfl | (simp [kEq, kIx] at h)

def V.asB : V → Option Bool
  | .bool b => some b
  | .tt b => some b
  | _ => none

def bitAnd (k : IntKind) (x y : Int) : Int := k.wrap (BitVec.ofInt k.bits x &&& BitVec.ofInt k.bits y).toNat
def bitOr (k : IntKind) (x y : Int) : Int := k.wrap (BitVec.ofInt k.bits x ||| BitVec.ofInt k.bits y).toNat
def bitXor (k : IntKind) (x y : Int) : Int := k.wrap (BitVec.ofInt k.bits x ^^^ BitVec.ofInt k.bits y).toNat
def shlI (k : IntKind) (x y : Int) : Int := k.wrap (x * 2 ^ (min y.toNat k.bits))
def shrI (k : IntKind) (x y : Int) : Int := x.fdiv (2 ^ (min y.toNat k.bits))
def strEq (x y : ByteArray) : Bool := x.toList == y.toList

/-- '==' on two structs or arrays comes to b. -/
def EqRun (P : Program) (t : TypeId) (l m : List V) (b : Bool) : Prop :=
  ∀ (σ : Nat → Option Value) (w : World) (bad : Nat → Prop) (x y : Value) (p q : Operand), CV σ w bad (.agg l) x → CV σ w bad (.agg m) y →
    (eqGuard .eql t p q x y).run P w = .ok () w ∧ (eqGuard .neq t p q x y).run P w = .ok () w ∧ (Op.equal t x y).run P w = .ok b w

section
variable (P : Program)

def evInt (op : BinOp) (k : IntKind) (x : Int) (k' : IntKind) (y : Int) : Option (V × List Prop) :=
  match op with
  | .shl => some (.int k (shlI k x y), [0 ≤ y])
  | .shr => some (.int k (shrI k x y), [0 ≤ y])
  | _ => match kEq k k' with
    | false => none
    | true => match op with
      | .add => some (.int k (k.wrap (x + y)), [])
      | .sub => some (.int k (k.wrap (x - y)), [])
      | .mul => some (.int k (k.wrap (x * y)), [])
      | .quo => some (.int k (k.wrap (x.tdiv y)), [y ≠ 0])
      | .rem => some (.int k (x.tmod y), [y ≠ 0])
      | .and => some (.int k (bitAnd k x y), [])
      | .or => some (.int k (bitOr k x y), [])
      | .xor => some (.int k (bitXor k x y), [])
      | .eql => some (.bool (x == y), [])
      | .neq => some (.bool (x != y), [])
      | .lss => some (.bool (decide (x < y)), [])
      | .leq => some (.bool (decide (x ≤ y)), [])
      | .gtr => some (.bool (decide (x > y)), [])
      | .geq => some (.bool (decide (x ≥ y)), [])
      | _ => none

/-- A value against nil (of a slice, of a function): is it? -/
def evNilS (t : TypeId) (s : V) : Option (Bool × List Prop) :=
  match P.underlying t with
  | some (.slice _) => match s with
    | .nilsl => some (true, [])
    | .esl => some (false, [])
    | .seq _ n _ => some (false, [0 < n])
    | .row _ _ _ _ => some (false, [])
    | _ => none
  | _ => none
def evNilF (t : TypeId) (s : V) : Option (Bool × List Prop) :=
  match P.underlying t with
  | some (.func _ _ _) => match s with
    | .fn _ _ => some (false, [])
    | .nilfn => some (true, [])
    | _ => none
  | _ => none

def evEq (op : BinOp) : Option (Bool × List Prop) → Option (V × List Prop)
  | some (b, obs) => match op with
    | .eql => some (.tt b, obs)
    | .neq => some (.tt (!b), obs)
    | _ => none
  | none => none

def evBin (op : BinOp) (t : TypeId) (s r : V) (ans : Ans) : Option (V × List Prop) :=
  match s, r with
  | .int k x, .int k' y => evInt op k x k' y
  | .str x, .str y => match op with
    | .add => some (.str (x ++ y), [((x.size + y.size : Nat) : Int) ≤ IntKind.i64.max])
    | .eql => some (.bool (strEq x y), [])
    | .neq => some (.bool (!strEq x y), [])
    | _ => none
  | .agg l, .agg m => match ans with
    | .val (.bool b) => match op with
      | .eql => some (.bool b, [EqRun P t l m b])
      | .neq => some (.bool (!b), [EqRun P t l m b])
      | _ => none
    | _ => none
  | s, .nilsl => evEq op (evNilS P t s)
  | s, .nilfn => evEq op (evNilF P t s)
  | s, r => match s.asB, r.asB, P.underlying t with
    | some x, some y, some .bool => match op with
      | .eql => some (.bool (x == y), [])
      | .neq => some (.bool (x != y), [])
      | _ => none
    | _, _, _ => none

def evUn (op : UnOp) (s : V) : Option V :=
  match op, s with
  | .not, .bool b => some (.bool (!b))
  | .not, .tt b => some (.tt (!b))
  | .neg, .int k x => some (.int k (k.wrap (0 - x)))
  | _, _ => none

def evConv (src dst : TypeId) (s : V) : Option V :=
  match P.underlying src, P.underlying dst, s with
  | some (.int _), some (.int k), .int _ x => some (.int k (k.wrap x))
  | some .string, some .string, .str x => some (.str x)
  | _, _, _ => none

def loBound : Option V → Option Int
  | none => some 0
  | some (.int _ i) => some i
  | _ => none
def hiBound (d : Nat) : Option V → Option Int
  | none => some d
  | some (.int _ i) => some i
  | _ => none

def optV (fr : List (Nat × V)) : Option Operand → Option (Option V)
  | none => some none
  | some x => match evo fr x with
    | some s => some (some s)
    | none => none

def evSlice (S : St) (t : TypeId) (x : Operand) (lo hi mx : Option Operand) : Option (V × List Prop) :=
  match mx with
  | some _ => none
  | none => match optV S.fr lo, optV S.fr hi with
    | some lo, some hi => match evo S.fr x with
      | some (.str s) => match P.underlying t, loBound lo, hiBound s.size hi with
        | some .string, some l, some h => some (.str (s.extract l.toNat h.toNat), [0 ≤ l ∧ l ≤ h, h ≤ (s.size : Int)])
        | _, _, _ => none
      | some (.seq sz n f) => match P.underlying t, loBound lo, hiBound n hi with
        | some (.slice e), some l, some h => match szT P e with
          | some sz' => match Nat.beq sz sz' with
            | true => some (.seq sz (h.toNat - l.toNat) (fun i => f (l.toNat + i)), [0 ≤ l ∧ l ≤ h, h ≤ (n : Int)])
            | false => none
          | none => none
        | _, _, _ => none
      | _ => none
    | _, _ => none

def evList (fr : List (Nat × V)) : List Operand → Option (List V)
  | [] => some []
  | x :: l => match evo fr x, evList fr l with
    | some s, some r => some (s :: r)
    | _, _ => none

def evLen (S : St) (t : TypeId) (s : V) : Option V :=
  match P.underlying t with
  | some .string => match s with
    | .str s => some (.int .i64 s.size)
    | _ => none
  | some (.slice _) => match s with
    | .seq _ n _ => some (.int .i64 n)
    | .row _ _ n _ => some (.int .i64 n)
    | .nilsl => some (.int .i64 0)
    | .esl => some (.int .i64 0)
    | .vec k => match aget S.bx k with
      | some (.vec _ _ n _) => some (.int .i64 n)
      | _ => none
    | _ => none
  | some (.map _ _) => match s with
    | .map k => match aget S.bx k with
      | some (.mapB n _) => some (.int .i64 n)
      | some (.mapI n _) => some (.int .i64 n)
      | _ => none
    | _ => none
  | _ => none

def evBuiltin (S : St) (b : Builtin) (ts : Array TypeId) (args : List Operand) : Option V :=
  match b, evList S.fr args with
  | .len, some [s] => match ts.toList with
    | t :: _ => evLen P S t s
    | [] => none
  | .min, some [.int k x, .int k' y] => match kEq k k' with
    | true => some (.int k (if y < x then y else x))
    | false => none
  | .max, some [.int k x, .int k' y] => match kEq k k' with
    | true => some (.int k (if y > x then y else x))
    | false => none
  | _, _ => none

def evIndex (S : St) (t : TypeId) (x ix : Operand) (ans : Ans) : Option (V × List Prop) :=
  match evo S.fr ix with
  | some (.int _ i) => match evo S.fr x with
    | some (.agg l) => match P.underlying t with
      | some (.array len e) => match szT P e with
        | some sz => match loadA P e l (i.toNat * sz) ans with
          | some (r, obs) => some (r, (0 ≤ i ∧ i < (len : Int)) :: obs)
          | none => none
        | none => none
      | _ => none
    | some (.str s) => match P.underlying t with
      | some .string => some (.int .u8 ((s.data.getD i.toNat 0).toNat : Nat), [0 ≤ i ∧ i < (s.size : Int)])
      | _ => none
    | _ => none
  | _ => none

def evField (S : St) (t : TypeId) (x : Operand) (field : Nat) : Option (V × List Prop) :=
  match P.underlying t with
  | some (.struct fs) => match fs[field]? with
    | some f => match evo S.fr x with
      | some (.agg l) => loadA P f.type l f.offset .no
      | _ => none
    | none => none
  | _ => none

/-- What a nil check lets by. -/
def V.sure : V → Bool
  | .ptr _ _ | .elp _ _ _ _ _ | .rfp _ _ | .vptr _ _ _ _ | .fn _ _ => true
  | _ => false

def evR (S : St) (op : Op) (ans : Ans) : Option (V × List Prop) :=
  match op with
  | .move x => match evo S.fr x with
    | some s => some (s, [])
    | none => some (.junk, [])
  | .assign x => match evo S.fr x with
    | some s => some (s, [])
    | none => some (.junk, [])
  | .pick c a b => match evo S.fr c with
    | some (.tt true) => match evo S.fr a with
      | some s => some (s, [])
      | none => some (.junk, [])
    | some (.tt false) => match evo S.fr b with
      | some s => some (s, [])
      | none => some (.junk, [])
    | some (.bool c) => match evo S.fr a, evo S.fr b with
      | some x, some y => match x.asB, y.asB with
        | some x, some y => some (.bool (bif c then x else y), [])
        | _, _ => none
      | _, _ => none
    | _ => none
  | .load t x => evLoad P S t x ans
  | .nilCheck x => match evo S.fr x with
    | some s => match s.sure with
      | true => some (s, [])
      | false => none
    | none => none
  | .binOp op t x y _ => match evo S.fr x, evo S.fr y with
    | some s, some r => evBin P op t s r ans
    | _, _ => none
  | .unOp op _ x => match evo S.fr x with
    | some s => match evUn op s with
      | some r => some (r, [])
      | none => none
    | none => none
  | .convert src dst x => match evo S.fr x with
    | some s => match evConv P src dst s with
      | some r => some (r, [])
      | none => none
    | none => none
  | .makeFunc (.func f) first caps => match first.toList, evList S.fr caps.toList with
    | [], some l => some (.fn f l, [])
    | _, _ => none
  | .slice t x lo hi mx => evSlice P S t x lo hi mx
  | .fieldAddr t x f => match evFieldAddr P S t x f with
    | some r => some (r, [])
    | none => none
  | .field t x f => evField P S t x f
  | .indexAddr t x i => evIndexAddr P S t x i
  | .index t x i => evIndex P S t x i ans
  | .extract x i => match evo S.fr x with
    | some (.tup l) => match l[i]? with
      | some s => some (s, [])
      | none => none
    | _ => none
  | .call c => match c.callee with
    | .builtin b => match evBuiltin P S b c.argTypes c.args.toList with
      | some r => some (r, [])
      | none => none
    | _ => none
  | _ => none
end

section
variable {P : Program} {E : Env} {σ : Nat → Option Value} {S V0 : St} {a : Act} {w : World} {bad : Nat → Prop}

theorem eqGuard_plain (op : BinOp) (t : TypeId) (p q : Operand) {x y : Value} (h : (∀ z, x ≠ .agg z) ∨ (∀ z, y ≠ .agg z)) (h' : x ≠ .nilIface ∨ y ≠ .nilIface) : (eqGuard op t p q x y).run P w = .ok () w := by
  cases x <;> cases y <;> first
    | (simp at h; done)
    | (simp at h'; done)
    | (cases op <;> rfl)

theorem max_i64 : IntKind.i64.max = 9223372036854775807 := by decide

theorem asB_ok {s : V} {b : Bool} (h : s.asB = some b) {v : Value} (hv : CV σ w bad s v) : v = .bool b := by
  cases hv with
  | data hd => cases hd <;> simp [V.asB] at h <;> subst h <;> rfl
  | _ => simp [V.asB] at h

theorem run_evInt {op : BinOp} {t : TypeId} {k k' : IntKind} {x y : Int} {r : V} {obs : List Prop} (h : evInt op k x k' y = some (r, obs)) (ho : AllP obs) :
    ∃ v, (binOp op t (.int k x) (.int k' y)).run P w = .ok v w ∧ CD w bad r v := by
  unfold evInt at h
  split at h
  · injection h with h; injection h with h1 h2; subst h1 h2
    have h0 : ¬ y < 0 := by have := ho.1; omega
    exact ⟨_, by simp [binOp, Op.shift, h0]; rfl, .int⟩
  · injection h with h; injection h with h1 h2; subst h1 h2
    have h0 : ¬ y < 0 := by have := ho.1; omega
    exact ⟨_, by simp [binOp, Op.shift, h0]; rfl, .int⟩
  · rename_i hs1 hs2
    split at h
    · cases h
    · rename_i hk
      obtain rfl := kEq_ok hk
      cases op <;> first
        | (exact absurd rfl hs1)
        | (exact absurd rfl hs2)
        | (simp at h; done)
        | (simp only [Option.some.injEq, Prod.mk.injEq] at h
           obtain ⟨h1, h2⟩ := h
           subst h1 h2
           refine ⟨_, ?_, by first | exact .int | exact .bool⟩
           first
             | (simp [binOp, Op.intArith]; done)
             | (have h0 := ho.1; simp [binOp, Op.intDiv, h0]; done)
             | (simp [binOp, Op.intBits]; rfl)
             | (simp [binOp, Op.intCmp]; done))

theorem equal_at (t : TypeId) (x y : Value) : Op.equal t x y = Op.equalIn (9999 + 1) t x y := rfl
theorem run_equalIn_slice (d : Nat) {t e : TypeId} (ht : P.underlying t = some (.slice e)) (o : Option Addr) (n c : Nat) : (Op.equalIn (d + 1) t (.slice o n c) (.slice none 0 0)).run P w = .ok o.isNone w := by
  cases o <;> simp [Op.equalIn, run_underlying ht]
theorem run_equalIn_fn (d : Nat) {t : TypeId} {e1 e2 : Array TypeId} {e3 : Bool} (ht : P.underlying t = some (.func e1 e2 e3)) (f : Fn) (l c : Array Value) : (Op.equalIn (d + 1) t (.func f l c) .nilFunc).run P w = .ok false w := by
  simp [Op.equalIn, run_underlying ht]
theorem run_equalIn_nilfn (d : Nat) {t : TypeId} {e1 e2 : Array TypeId} {e3 : Bool} (ht : P.underlying t = some (.func e1 e2 e3)) : (Op.equalIn (d + 1) t .nilFunc .nilFunc).run P w = .ok true w := by
  simp [Op.equalIn, run_underlying ht]
theorem run_equalIn_bool (d : Nat) {t : TypeId} (ht : P.underlying t = some .bool) (x y : Bool) : (Op.equalIn (d + 1) t (.bool x) (.bool y)).run P w = .ok (x == y) w := by
  simp [Op.equalIn, run_underlying ht]

theorem run_evNilS {t : TypeId} {s : V} {b : Bool} {obs : List Prop} (h : evNilS P t s = some (b, obs)) (ho : AllP obs) {v : Value} (hv : CV σ w bad s v) :
    (Op.equal t v (.slice none 0 0)).run P w = .ok b w ∧ ∃ o n c, v = .slice o n c := by
  unfold evNilS at h
  split at h
  · rename_i e ht
    have hr : ∀ (o : Option Addr) n c, (Op.equal t (.slice o n c) (.slice none 0 0)).run P w = .ok o.isNone w := by
      intro o n c
      rw [equal_at]; exact run_equalIn_slice _ ht o n c
    split at h
    · injection h with h; injection h with h1 h2; subst h1 h2
      cases hv with
      | data hd => cases hd; exact ⟨hr _ _ _, _, _, _, rfl⟩
    · injection h with h; injection h with h1 h2; subst h1 h2
      cases hv with
      | data hd => cases hd; exact ⟨hr _ _ _, _, _, _, rfl⟩
    · injection h with h; injection h with h1 h2; subst h1 h2
      cases hv with
      | data hd =>
        cases hd with
        | seq o b off c u hoo => obtain rfl := hoo ho.1; exact ⟨hr _ _ _, _, _, _, rfl⟩
    · injection h with h; injection h with h1 h2; subst h1 h2
      cases hv with
      | data hd => cases hd
      | row b hb => exact ⟨hr _ _ _, _, _, _, rfl⟩
    · cases h
  · cases h

theorem run_evNilF {t : TypeId} {s : V} {b : Bool} {obs : List Prop} (h : evNilF P t s = some (b, obs)) {v : Value} (hv : CV σ w bad s v) :
    (Op.equal t v .nilFunc).run P w = .ok b w ∧ (v = .nilFunc ∨ ∃ f l c, v = .func f l c) := by
  unfold evNilF at h
  split at h
  · rename_i e1 e2 e3 ht
    split at h
    · injection h with h; injection h with h1 h2; subst h1 h2
      cases hv with
      | data hd => cases hd; exact ⟨by rw [equal_at]; exact run_equalIn_fn _ ht _ _ _, .inr ⟨_, _, _, rfl⟩⟩
      | fn => exact ⟨by rw [equal_at]; exact run_equalIn_fn _ ht _ _ _, .inr ⟨_, _, _, rfl⟩⟩
    · injection h with h; injection h with h1 h2; subst h1 h2
      cases hv with
      | data hd => cases hd; exact ⟨by rw [equal_at]; exact run_equalIn_nilfn _ ht, .inl rfl⟩
    · cases h
  · cases h

theorem evEq_ok {op : BinOp} {q : Option (Bool × List Prop)} {r : V} {obs : List Prop} (h : evEq op q = some (r, obs)) :
    ∃ b, q = some (b, obs) ∧ ((op = .eql ∧ r = .tt b) ∨ (op = .neq ∧ r = .tt (!b))) := by
  unfold evEq at h
  split at h
  · split at h
    · injection h with h; injection h with h1 h2; subst h1 h2; exact ⟨_, rfl, .inl ⟨rfl, rfl⟩⟩
    · injection h with h; injection h with h1 h2; subst h1 h2; exact ⟨_, rfl, .inr ⟨rfl, rfl⟩⟩
    · cases h
  · cases h

theorem run_evBin {op : BinOp} {t : TypeId} {s r0 r : V} {ans : Ans} {obs : List Prop} (h : evBin P op t s r0 ans = some (r, obs)) (ho : AllP obs) {x y : Value} (p q : Operand) (hx : CV σ w bad s x) (hy : CV σ w bad r0 y) :
    ∃ v, (do eqGuard op t p q x y; binOp op t x y).run P w = .ok v w ∧ CV σ w bad r v := by
  unfold evBin at h
  split at h
  · -- ints
    cases hx with
    | data hd => cases hd; cases hy with
      | data hd => cases hd
                   obtain ⟨v, h1, h2⟩ := run_evInt (bad := bad) (t := t) (w := w) (P := P) h ho
                   exact ⟨v, by simp only [Sem.run_bind, eqGuard_plain op t p q (x := .int _ _) (y := .int _ _) (.inl (by simp)) (.inl (by simp)), Result.andThen_ok, h1], .data h2⟩
  · -- strings
    cases hx with
    | data hd => cases hd; cases hy with
      | data hd =>
        cases hd
        split at h
        · injection h with h; injection h with h1 h2; subst h1 h2
          have hb := ho.1
          exact ⟨_, by simp only [Sem.run_bind, eqGuard_plain _ t p q (x := .string _) (y := .string _) (.inl (by simp)) (.inl (by simp)), Result.andThen_ok]; unfold binOp Op.stringOp; simp only []; rw [if_neg (by omega)]; rfl, .data .str⟩
        · injection h with h; injection h with h1 h2; subst h1 h2
          exact ⟨_, by simp only [Sem.run_bind, eqGuard_plain _ t p q (x := .string _) (y := .string _) (.inl (by simp)) (.inl (by simp)), Result.andThen_ok]; simp [binOp, Op.stringOp]; rfl, .data .bool⟩
        · injection h with h; injection h with h1 h2; subst h1 h2
          exact ⟨_, by simp only [Sem.run_bind, eqGuard_plain _ t p q (x := .string _) (y := .string _) (.inl (by simp)) (.inl (by simp)), Result.andThen_ok]; simp [binOp, Op.stringOp]; rfl, .data .bool⟩
        · cases h
  · -- structs
    split at h
    · split at h
      · injection h with h; injection h with h1 h2; subst h1 h2
        obtain ⟨g1, g2, g3⟩ := ho.1 σ w bad x y p q hx hy
        cases hx with
        | agg vs u hs hv h1 hd => cases hy with
          | agg vs' u' hs' hv' h1' hd' => exact ⟨_, by simp only [Sem.run_bind, g1, Result.andThen_ok]; simp only [binOp, Sem.run_bind, g3, Result.andThen_ok]; rfl, .data .bool⟩
          | data hd => cases hd
        | data hd => cases hd
      · injection h with h; injection h with h1 h2; subst h1 h2
        obtain ⟨g1, g2, g3⟩ := ho.1 σ w bad x y p q hx hy
        cases hx with
        | agg vs u hs hv h1 hd => cases hy with
          | agg vs' u' hs' hv' h1' hd' => exact ⟨_, by simp only [Sem.run_bind, g2, Result.andThen_ok]; simp only [binOp, Sem.run_bind, g3, Result.andThen_ok]; rfl, .data .bool⟩
          | data hd => cases hd
        | data hd => cases hd
      · cases h
    · cases h
  · -- nil slices
    obtain ⟨b, hb, hop⟩ := evEq_ok h
    cases hy with
    | data hd =>
      cases hd
      obtain ⟨hrun, o, n, c, rfl⟩ := run_evNilS hb ho hx
      rcases hop with ⟨rfl, rfl⟩ | ⟨rfl, rfl⟩
      · exact ⟨_, by simp only [Sem.run_bind, eqGuard_plain _ t p q (x := .slice _ _ _) (y := .slice _ _ _) (.inl (by simp)) (.inl (by simp)), Result.andThen_ok]; simp only [binOp, Sem.run_bind, hrun, Result.andThen_ok]; rfl, .data .tt⟩
      · exact ⟨_, by simp only [Sem.run_bind, eqGuard_plain _ t p q (x := .slice _ _ _) (y := .slice _ _ _) (.inl (by simp)) (.inl (by simp)), Result.andThen_ok]; simp only [binOp, Sem.run_bind, hrun, Result.andThen_ok]; rfl, .data .tt⟩
  · -- nil functions
    obtain ⟨b, hb, hop⟩ := evEq_ok h
    cases hy with
    | data hd =>
      cases hd
      obtain ⟨hrun, hxx⟩ := run_evNilF hb hx
      have hg : ∀ op, (eqGuard op t p q x .nilFunc).run P w = .ok () w := fun op => eqGuard_plain _ t p q (.inr (by simp)) (.inr (by simp))
      rcases hxx with rfl | ⟨f, l, c, rfl⟩ <;> rcases hop with ⟨rfl, rfl⟩ | ⟨rfl, rfl⟩ <;>
        exact ⟨_, by simp only [Sem.run_bind, hg, Result.andThen_ok]; simp only [binOp, Sem.run_bind, hrun, Result.andThen_ok]; rfl, .data .tt⟩
  · -- bools
    split at h
    · rename_i bx by' hbx hby ht
      obtain rfl := asB_ok hbx hx
      obtain rfl := asB_ok hby hy
      have hg : ∀ op, (eqGuard op t p q (.bool bx) (.bool by')).run P w = .ok () w := fun op => eqGuard_plain _ t p q (.inr (by simp)) (.inr (by simp))
      split at h
      · injection h with h; injection h with h1 h2; subst h1 h2
        exact ⟨_, by simp only [Sem.run_bind, hg, Result.andThen_ok]; simp only [binOp, equal_at, Sem.run_bind, run_equalIn_bool _ ht, Result.andThen_ok]; rfl, .data .bool⟩
      · injection h with h; injection h with h1 h2; subst h1 h2
        exact ⟨_, by simp only [Sem.run_bind, hg, Result.andThen_ok]; simp only [binOp, equal_at, Sem.run_bind, run_equalIn_bool _ ht, Result.andThen_ok]; rfl, .data .bool⟩
      · cases h
    · cases h
end
end Go.Hb
