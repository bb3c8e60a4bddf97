/-
  THE DATA, PART B: whatever came in at a record's type is such a record (printed in part by wip/tools/shapes.py).
-/
import Derived.Test.YtfcdfbafgmegfaaDtA
import Derived.Test.YtfcdfbafgmegfaaSy4
import Derived.Test.YtfcdfbafgmegfaaChecked
namespace Go.Hb
open Go.RowKit Go.Proofs
set_option maxRecDepth 100000

theorem shape_num (d t i s : Nat) {fs : Array Field} {f0 f1 : Field} (hu : Try.prog.underlying t = some (.struct fs)) (hfs : fs.toList = [f0, f1]) (h0 : Try.prog.underlying f0.type = some (.int .i64)) (h1 : Try.prog.underlying f1.type = some .string)
    {l : List V} (h : Shape Try.prog (d + 2) t l) : ∃ q : Num, l = q.e ∧ (Lit.int .i64 q.n).wf = true ∧ q.s.size ≤ 140737488355328 := by
  simp only [Shape, hu, hfs, ShapeFs, h0, h1] at h
  obtain ⟨_, _, rfl, ⟨x0, rfl, w0⟩, _, _, rfl, ⟨x1, rfl, w1⟩, rfl⟩ := h
  exact ⟨⟨x0, x1⟩, rfl, w0, w1⟩

structure PrcOk (p : Prc) : Prop where
  pid : (Lit.int .i64 (p.n 0)).wf = true
  parent : (Lit.int .i64 (p.n 1)).wf = true
  n : (Lit.int .u64 (p.n 95)).wf = true

/-- The cells of a plain type without rows: some k: an integer; none: a bool. -/
def flatFs (p : TypeId → Option (List (Option IntKind))) : List Field → Option (List (Option IntKind))
  | [] => some []
  | f :: fs => match p f.type, flatFs p fs with
    | some a, some b => some (a ++ b)
    | _, _ => none
def repL (a : List (Option IntKind)) : Nat → List (Option IntKind)
  | 0 => []
  | n + 1 => a ++ repL a n
def flatK (P : Program) : Nat → TypeId → Option (List (Option IntKind))
  | 0, _ => none
  | d + 1, t => match P.underlying t with
    | some .bool => some [none]
    | some (.int k) => some [some k]
    | some (.struct fs) => flatFs (flatK P d) fs.toList
    | some (.array n e) => match flatK P d e with
      | some a => some (repL a n)
      | none => none
    | _ => none
inductive Match : List (Option IntKind) → List V → Prop
  | nil : Match [] []
  | int {k n ks l} (h : (Lit.int k n).wf = true) (m : Match ks l) : Match (some k :: ks) (.int k n :: l)
  | bool {b ks l} (m : Match ks l) : Match (none :: ks) (.bool b :: l)
theorem Match.append {ks ks' : List (Option IntKind)} {l l' : List V} (h : Match ks l) (h' : Match ks' l') : Match (ks ++ ks') (l ++ l') := by
  induction h with
  | nil => exact h'
  | int w _ ih => exact .int w ih
  | bool _ ih => exact .bool ih
theorem flatFs_match {P : Program} {d : Nat} (ih : ∀ (t : TypeId) (l : List V) (ks : List (Option IntKind)), Shape P d t l → flatK P d t = some ks → Match ks l) : ∀ (fs : List Field) (l : List V) (ks : List (Option IntKind)), ShapeFs (Shape P d) fs l → flatFs (flatK P d) fs = some ks → Match ks l
  | [], l, ks, h, hk => by
    simp only [flatFs, Option.some.injEq] at hk
    subst hk
    obtain rfl : l = [] := h
    exact .nil
  | f :: fs, l, ks, h, hk => by
    obtain ⟨l1, l2, rfl, h1, h2⟩ := h
    simp only [flatFs] at hk
    split at hk
    · rename_i a b ha hb
      simp only [Option.some.injEq] at hk
      subst hk
      exact (ih _ _ _ h1 ha).append (flatFs_match ih fs l2 b h2 hb)
    · cases hk
theorem repL_match {p : List V → Prop} {a : List (Option IntKind)} (ih : ∀ l, p l → Match a l) : ∀ (n : Nat) (l : List V), ShapeN p n l → Match (repL a n) l
  | 0, l, h => by
    obtain rfl : l = [] := h
    exact .nil
  | n + 1, l, h => by
    obtain ⟨l1, l2, rfl, h1, h2⟩ := h
    exact (ih _ h1).append (repL_match ih n l2 h2)
theorem flat_match {P : Program} : ∀ (d : Nat) (t : TypeId) (l : List V) (ks : List (Option IntKind)), Shape P d t l → flatK P d t = some ks → Match ks l
  | 0, t, l, ks, h, _ => h.elim
  | d + 1, t, l, ks, h, hk => by
    unfold Shape at h
    unfold flatK at hk
    cases hu : P.underlying t with
    | none => rw [hu] at hk; cases hk
    | some k =>
      rw [hu] at h hk
      cases k with
      | bool =>
        obtain ⟨b, rfl⟩ := h
        simp only [Option.some.injEq] at hk; subst hk
        exact .bool .nil
      | int k =>
        obtain ⟨n, rfl, w⟩ := h
        simp only [Option.some.injEq] at hk; subst hk
        exact .int w .nil
      | struct fs => exact flatFs_match (fun t l ks => flat_match d t l ks) _ _ _ h hk
      | array n e =>
        simp only at hk
        split at hk
        · rename_i a ha
          simp only [Option.some.injEq] at hk; subst hk
          exact repL_match (fun l hl => flat_match d e l a hl ha) n l h
        · cases hk
      | _ => cases hk
def encK (n : Nat → Int) (b : Nat → Bool) : List (Option IntKind) → Nat → List V
  | [], _ => []
  | some k :: ks, i => .int k (n i) :: encK n b ks (i + 1)
  | none :: ks, i => .bool (b i) :: encK n b ks (i + 1)
def intOfV : V → Int
  | .int _ n => n
  | _ => 0
def boolOfV : V → Bool
  | .bool b => b
  | _ => false
theorem enc_match {n : Nat → Int} {b : Nat → Bool} {ks : List (Option IntKind)} {l : List V} (h : Match ks l) : ∀ (i : Nat), (∀ (j : Nat) s, l[j]? = some s → n (i + j) = intOfV s ∧ b (i + j) = boolOfV s) → l = encK n b ks i := by
  induction h with
  | nil => intro i _; rfl
  | int w _ ih =>
    intro i h
    have h0 := (h 0 _ rfl).1
    simp only [Nat.add_zero, intOfV] at h0
    simp only [encK, h0]
    rw [← ih (i + 1) fun j s hj => by have := h (j + 1) s (by simpa using hj); rwa [Nat.add_assoc, Nat.add_comm 1 j]]
  | bool _ ih =>
    intro i h
    have h0 := (h 0 _ rfl).2
    simp only [Nat.add_zero, boolOfV] at h0
    simp only [encK, h0]
    rw [← ih (i + 1) fun j s hj => by have := h (j + 1) s (by simpa using hj); rwa [Nat.add_assoc, Nat.add_comm 1 j]]
theorem Match.get {ks : List (Option IntKind)} {l : List V} (h : Match ks l) : ∀ (j : Nat) (k : IntKind), ks[j]? = some (some k) → ∃ n, l[j]? = some (.int k n) ∧ (Lit.int k n).wf = true := by
  induction h with
  | nil => intro j k h; simp at h
  | int w _ ih =>
    intro j k h
    cases j with
    | zero => simp at h; subst h; exact ⟨_, rfl, w⟩
    | succ j => simpa using ih j k (by simpa using h)
  | bool _ ih =>
    intro j k h
    cases j with
    | zero => simp at h
    | succ j => simpa using ih j k (by simpa using h)

def prcKs : List (Option IntKind) := [some .i64, some .i64, some .i64] ++ repL [some .u32] 17 ++ repL [none, none, some .i64] 16 ++ repL [some .i64] 24 ++ [none, some .u32, some .i64, some .u64]
theorem prc_flat : flatK Try.prog 4 47 = some prcKs := by kernel_rfl
theorem prc_enc (p : Prc) : p.e = encK p.n p.b prcKs 0 := rfl
theorem shape_proc {l : List V} (h : Shape Try.prog 4 47 l) : ∃ p : Prc, l = p.e ∧ PrcOk p := by
  have hm := flat_match 4 47 l prcKs h prc_flat
  refine ⟨⟨fun j => intOfV (l.getD j .junk), fun j => boolOfV (l.getD j .junk)⟩, ?_, ?_⟩
  · rw [prc_enc]
    exact enc_match hm 0 fun j s hj => by simp [hj]
  · have key : ∀ (j : Nat) (k : IntKind), prcKs[j]? = some (some k) → (Lit.int k (intOfV (l.getD j .junk))).wf = true := fun j k hj => by
      obtain ⟨n, h1, h2⟩ := hm.get j k hj
      rw [List.getD_eq_getElem?_getD, h1]
      exact h2
    exact ⟨key 0 .i64 rfl, key 1 .i64 rfl, key 95 .u64 rfl⟩

theorem pick_fn {α : Type} [Inhabited α] {n : Nat} {p : Nat → α → Prop} (h : ∀ i, i < n → ∃ a, p i a) : ∃ g : Nat → α, ∀ i, i < n → p i (g i) := by
  refine ⟨fun i => if hi : i < n then Classical.choose (h i hi) else default, fun i hi => ?_⟩
  simp only [hi, dite_true]
  exact Classical.choose_spec (h i hi)

theorem strs_of {d n : Nat} {f : Nat → List V} (h : ∀ i, i < n → Shape Try.prog (d + 1) 9 (f i)) : ∃ q : Nat → ByteArray, ∀ i, i < n → f i = [.str (q i)] ∧ (q i).size ≤ 140737488355328 :=
  pick_fn fun i hi => by
    have := h i hi
    simp only [Shape, Try.underlying9] at this
    exact this
instance : Inhabited Num := ⟨⟨0, ⟨#[]⟩⟩⟩
instance : Inhabited Prc := ⟨⟨fun _ => 0, fun _ => false⟩⟩

def NumOk (q : Num) : Prop := (Lit.int .i64 q.n).wf = true ∧ q.s.size ≤ 140737488355328
structure MacOk (m : Mac) : Prop where
  frames : m.frames.n ≤ 140737488355328
  frame : ∀ i, i < m.frames.n → (m.frames.f i).size ≤ 140737488355328
  procs : m.procs.n ≤ 140737488355328
  proc : ∀ i, i < m.procs.n → PrcOk (m.procs.f i)
  pipes : m.pipes.n ≤ 140737488355328
  pipe : ∀ i, i < m.pipes.n → NumOk (m.pipes.f i)
  blocks : m.drive.blocks.n ≤ 140737488355328
  block : ∀ i, i < m.drive.blocks.n → (m.drive.blocks.f i).size ≤ 140737488355328
  pendings : m.drive.pending.n ≤ 140737488355328
  pending : ∀ i, i < m.drive.pending.n → NumOk (m.drive.pending.f i)
  dirtys : m.dirty.n ≤ 140737488355328
  dirty : ∀ i, i < m.dirty.n → NumOk (m.dirty.f i)
  init : m.init.size ≤ 140737488355328
  inn : m.inn.size ≤ 140737488355328
  clock : (Lit.int .u64 m.clock).wf = true
  quantum : (Lit.int .i64 m.quantum).wf = true
  cur : (Lit.int .i64 m.cur).wf = true
  left : (Lit.int .i64 m.left).wf = true
  next : (Lit.int .i64 m.next).wf = true
  newpipe : (Lit.int .i64 m.newpipe).wf = true
  told : (Lit.int .u64 m.told).wf = true
  dleft : (Lit.int .i64 m.drive.left).wf = true

theorem cells9 : Try.prog.cellsOf 9 = 1 := by kernel_rfl
theorem cells47 : Try.prog.cellsOf 47 = 96 := by kernel_rfl
theorem cells59 : Try.prog.cellsOf 59 = 2 := by kernel_rfl
theorem cells80 : Try.prog.cellsOf 80 = 2 := by kernel_rfl

theorem shape_pipe {d : Nat} {l : List V} (h : Shape Try.prog (d + 2) 59 l) : ∃ q : Num, l = q.e ∧ NumOk q := shape_num d 59 3 9 Try.underlying59 rfl Try.underlying3 Try.underlying9 h
theorem shape_write {d : Nat} {l : List V} (h : Shape Try.prog (d + 2) 80 l) : ∃ q : Num, l = q.e ∧ NumOk q := shape_num d 80 3 9 Try.underlying80 rfl Try.underlying3 Try.underlying9 h
theorem pipes_of {d n : Nat} {f : Nat → List V} (h : ∀ i, i < n → Shape Try.prog (d + 2) 59 (f i)) : ∃ q : Nat → Num, ∀ i, i < n → f i = (q i).e ∧ NumOk (q i) := pick_fn fun i hi => shape_pipe (h i hi)
theorem writes_of {d n : Nat} {f : Nat → List V} (h : ∀ i, i < n → Shape Try.prog (d + 2) 80 (f i)) : ∃ q : Nat → Num, ∀ i, i < n → f i = (q i).e ∧ NumOk (q i) := pick_fn fun i hi => shape_write (h i hi)
theorem procs_of {n : Nat} {f : Nat → List V} (h : ∀ i, i < n → Shape Try.prog 4 47 (f i)) : ∃ q : Nat → Prc, ∀ i, i < n → f i = (q i).e ∧ PrcOk (q i) := pick_fn fun i hi => shape_proc (h i hi)

theorem leaf_int {d t : Nat} {k : IntKind} {l : List V} (hu : Try.prog.underlying t = some (.int k)) (h : Shape Try.prog (d + 1) t l) : ∃ n, l = [.int k n] ∧ (Lit.int k n).wf = true := by
  simp only [Shape, hu] at h; exact h
theorem leaf_str {d : Nat} {l : List V} (h : Shape Try.prog (d + 1) 9 l) : ∃ s : ByteArray, l = [.str s] ∧ s.size ≤ 140737488355328 := by
  simp only [Shape, Try.underlying9] at h; exact h
theorem leaf_bool {d : Nat} {l : List V} (h : Shape Try.prog (d + 1) 4 l) : ∃ b, l = [.bool b] := by
  simp only [Shape, Try.underlying4] at h; exact h
theorem leaf_seq {d t e : Nat} {l : List V} (hu : Try.prog.underlying t = some (.slice e)) (h : Shape Try.prog (d + 1) t l) : ∃ n f, l = [.seq (Try.prog.cellsOf e) n f] ∧ n ≤ 140737488355328 ∧ ∀ i, i < n → Shape Try.prog d e (f i) := by
  simp only [Shape, hu] at h; exact h

theorem shape_mac {l : List V} (h : Shape Try.prog 6 30 l) : ∃ m : Mac, LeL l m.e ∧ MacOk m := by
  unfold Shape at h
  rw [Try.underlying30] at h
  simp only [List.toList_toArray, ShapeFs] at h
  obtain ⟨_, _, rfl, h0, _, _, rfl, h1, _, _, rfl, h2, _, _, rfl, h3, _, _, rfl, h4, _, _, rfl, h5, _, _, rfl, h6, _, _, rfl, h7, _, _, rfl, h8, _, _, rfl, h9, _, _, rfl, h10, _, _, rfl, h11, _, _, rfl, h12, _, _, rfl, hD, _, _, rfl, h16, rfl⟩ := h
  unfold Shape at hD
  rw [Try.underlying28] at hD
  simp only [List.toList_toArray, ShapeFs] at hD
  obtain ⟨_, _, rfl, h13, _, _, rfl, h14, _, _, rfl, h15, rfl⟩ := hD
  obtain ⟨x0, rfl, w0⟩ := leaf_int Try.underlying22 h0
  obtain ⟨x1, rfl, w1⟩ := leaf_int Try.underlying3 h1
  obtain ⟨x2, rfl, w2⟩ := leaf_int Try.underlying3 h2
  obtain ⟨x3, rfl, w3⟩ := leaf_int Try.underlying3 h3
  obtain ⟨n4, f4, rfl, w4, h4⟩ := leaf_seq Try.underlying23 h4
  obtain ⟨q4, h4⟩ := strs_of (d := 3) h4
  obtain ⟨n5, f5, rfl, w5, h5⟩ := leaf_seq Try.underlying24 h5
  obtain ⟨q5, h5⟩ := procs_of h5
  obtain ⟨x6, rfl, w6⟩ := leaf_int Try.underlying3 h6
  obtain ⟨x7, rfl, w7⟩ := leaf_str h7
  obtain ⟨n8, f8, rfl, w8, h8⟩ := leaf_seq Try.underlying25 h8
  obtain ⟨q8, h8⟩ := pipes_of (d := 2) h8
  obtain ⟨x9, rfl, w9⟩ := leaf_int Try.underlying3 h9
  obtain ⟨x10, rfl, w10⟩ := leaf_str h10
  obtain ⟨x11, rfl⟩ := leaf_bool h11
  obtain ⟨x12, rfl, w12⟩ := leaf_int Try.underlying22 h12
  obtain ⟨n13, f13, rfl, w13, h13⟩ := leaf_seq Try.underlying23 h13
  obtain ⟨q13, h13⟩ := strs_of (d := 2) h13
  obtain ⟨n14, f14, rfl, w14, h14⟩ := leaf_seq Try.underlying26 h14
  obtain ⟨q14, h14⟩ := writes_of (d := 1) h14
  obtain ⟨x15, rfl, w15⟩ := leaf_int Try.underlying3 h15
  obtain ⟨n16, f16, rfl, w16, h16⟩ := leaf_seq Try.underlying26 h16
  obtain ⟨q16, h16⟩ := writes_of (d := 2) h16
  refine ⟨{ clock := x0, quantum := x1, cur := x2, left := x3, frames := ⟨n4, q4⟩, procs := ⟨n5, q5⟩, next := x6, init := x7, pipes := ⟨n8, q8⟩, newpipe := x9, inn := x10, endd := x11, told := x12, drive := ⟨⟨n13, q13⟩, ⟨n14, q14⟩, x15⟩, dirty := ⟨n16, q16⟩ }, ?_,
    ⟨w4, fun i hi => (h4 i hi).2, w5, fun i hi => (h5 i hi).2, w8, fun i hi => (h8 i hi).2, w13, fun i hi => (h13 i hi).2, w14, fun i hi => (h14 i hi).2, w16, fun i hi => (h16 i hi).2, w7, w10, w0, w1, w2, w3, w6, w9, w12, w15⟩⟩
  rw [cells9, cells47, cells59, cells80]
  exact .cons (.refl _) <| .cons (.refl _) <| .cons (.refl _) <| .cons (.refl _) <| .cons (.seq rfl fun i hi => (h4 i hi).1) <| .cons (.seq rfl fun i hi => (h5 i hi).1) <| .cons (.refl _) <| .cons (.refl _) <| .cons (.seq rfl fun i hi => (h8 i hi).1) <|
    .cons (.refl _) <| .cons (.refl _) <| .cons (.refl _) <| .cons (.refl _) <| .cons (.seq rfl fun i hi => (h13 i hi).1) <| .cons (.seq rfl fun i hi => (h14 i hi).1) <| .cons (.refl _) <| .cons (.seq rfl fun i hi => (h16 i hi).1) .nil

/-- Cells of nought. -/
def zeroC : List (Option IntKind) → List V
  | [] => []
  | some k :: ks => .int k 0 :: zeroC ks
  | none :: ks => .tt false :: zeroC ks
theorem zero_le : ∀ (ks : List (Option IntKind)) (i : Nat) (n : Nat → Int) (b : Nat → Bool), (∀ j, i ≤ j → n j = 0 ∧ b j = false) → LeL (zeroC ks) (encK n b ks i)
  | [], _, _, _, _ => .nil
  | some k :: ks, i, n, b, h => by
    simp only [zeroC, encK, (h i (Nat.le_refl _)).1]
    exact .cons (.refl _) (zero_le ks (i + 1) n b fun j hj => h j (by omega))
  | none :: ks, i, n, b, h => by
    simp only [zeroC, encK, (h i (Nat.le_refl _)).2]
    exact .cons (.tt false) (zero_le ks (i + 1) n b fun j hj => h j (by omega))
def rdy (k : Int) : Prc := ⟨fun j => if j = 0 then k else if j = 2 then 1 else 0, fun _ => false⟩
end Go.Hb
