/-
  THE SYMBOLIC LAYER, PART W: arguments that came in, opened by their types alone; and the close of a law that hands back true.
-/
import Derived.Test.YtfcdfbafgmegfaaSyU
import Derived.OpenShut
import Derived.JoinedOf
import Derived.SizedLaws
namespace Go.Hb
open Go.RowKit Go.ChangeShapes Go.WideShapes

/-- Plain types: bools, integers, strings; rows, structs and arrays of such. -/
def tiles (P : Program) (p : TypeId → Bool) (c : Nat) : Nat → List Field → Bool
  | o, [] => Nat.beq o c
  | o, f :: fs => Nat.beq f.offset o && (p f.type && tiles P p c (o + P.cellsOf f.type) fs)
def plainT (P : Program) : Nat → TypeId → Bool
  | 0, _ => false
  | d + 1, t => match P.underlying t with
    | some .bool => true
    | some (.int _) => true
    | some .string => true
    | some (.slice e) => plainT P d e && (Nat.blt 0 (P.cellsOf e) && Nat.blt 0 (P.bytesOf e))
    | some (.struct fs) => tiles P (plainT P d) (P.cellsOf t) 0 fs.toList
    | some (.array n e) => plainT P d e && Nat.beq (P.cellsOf t) (n * P.cellsOf e)
    | _ => false

/-- A plain type's values, cell by cell. -/
def ShapeFs (p : TypeId → List V → Prop) : List Field → List V → Prop
  | [], l => l = []
  | f :: fs, l => ∃ l1 l2, l = l1 ++ l2 ∧ p f.type l1 ∧ ShapeFs p fs l2
def ShapeN (p : List V → Prop) : Nat → List V → Prop
  | 0, l => l = []
  | n + 1, l => ∃ l1 l2, l = l1 ++ l2 ∧ p l1 ∧ ShapeN p n l2
def Shape (P : Program) : Nat → TypeId → List V → Prop
  | 0, _, _ => False
  | d + 1, t, l => match P.underlying t with
    | some .bool => ∃ b, l = [.bool b]
    | some (.int k) => ∃ n, l = [.int k n] ∧ (Lit.int k n).wf = true
    | some .string => ∃ s : ByteArray, l = [.str s] ∧ s.size ≤ 140737488355328
    | some (.slice e) => ∃ n f, l = [.seq (P.cellsOf e) n f] ∧ n ≤ 140737488355328 ∧ ∀ i, i < n → Shape P d e (f i)
    | some (.struct fs) => ShapeFs (Shape P d) fs.toList l
    | some (.array n e) => ShapeN (Shape P d e) n l
    | _ => False

def CR (w : World) (l : List V) (cs : List Value) : Prop := l.length = cs.length ∧ ∀ (j : Nat) (s : V), l[j]? = some s → ∃ u, cs[j]? = some u ∧ CD w (fun _ => False) s u
theorem CR.nil {w : World} : CR w [] [] := ⟨rfl, fun j s h => by simp at h⟩
theorem CR.one {w : World} {s : V} {u : Value} (h : CD w (fun _ => False) s u) : CR w [s] [u] := ⟨rfl, fun j r hj => by
  cases j with
  | zero => simp at hj; subst hj; exact ⟨u, rfl, h⟩
  | succ j => simp at hj⟩
theorem CR.append {w : World} {l m : List V} {c d : List Value} (h1 : CR w l c) (h2 : CR w m d) : CR w (l ++ m) (c ++ d) := ⟨by simp [h1.1, h2.1], fun j s hj => by
  rw [List.getElem?_append] at hj ⊢
  rw [← h1.1]
  split at hj
  · rename_i hlt; rw [if_pos hlt]; exact h1.2 j s hj
  · rename_i hlt; rw [if_neg hlt]; exact h2.2 _ s hj⟩

theorem weights_all {H : Type} {P : Program} {e : TypeId} : ∀ {ds : List (DataW H)} {i : Nat} {d : DataW H}, ds[i]? = some d → ∀ n ∈ d.weights P e, n ∈ DataW.weightsAll P e ds
  | [], _, _, h, _, _ => by simp at h
  | x :: ds, 0, d, h, n, hn => by simp at h; subst h; simp [DataW.weightsAll, hn]
  | x :: ds, i + 1, d, h, n, hn => by
    simp at h
    simp only [DataW.weightsAll, List.mem_append]
    exact Or.inr (weights_all h n hn)

theorem cells_len {w : World} {base : Nat} {a : Addr} {n : Nat} {cs : List Value} (h : w.cells? base a n = some cs) : cs.length = n ∧ ∀ j, j < n → w.cell? (a.add j) = cs[j]? := by
  unfold World.cells? at h
  split at h
  · exact ⟨by simpa using mapM_some_length h, fun j hj => mapM_some_get h j j (by simp [hj])⟩
  · cases h

theorem add_add (a : Addr) (m j : Nat) (h : a.spot = none) : (a.add m).add j = ⟨a.block, a.off + (m + j), none⟩ := by
  obtain ⟨b, o, s⟩ := a
  simp only at h
  subst h
  unfold Addr.add
  by_cases h1 : m = 0 <;> by_cases h2 : j = 0 <;> simp [h1, h2]
  omega

theorem spot_none {w : World} {a : Addr} {v : Value} (h : w.cell? a = some v) : a.spot = none := by
  unfold World.cell? at h
  split at h
  · split at h
    · cases h
    · rename_i hs; simpa using hs
  · cases h

section
variable {H : Type} {enc : TypeId × Value → H} {P : Program} {w : World} {base : Nat} {spare : Nat → Bool} {held : Bool}

theorem fs_shape {d : Nat} {fuel : Nat} {c : Nat} {cs : List Value} (hc : cs.length = c)
    (ih : ∀ (t : TypeId) (cs : List Value) (x : DataW H × List MemPlace), plainT P d t = true → DataW.trod enc P w base spare held fuel t cs = some x → (∀ n ∈ x.1.weights P t, n ≤ reachBytes) → ∃ l, Shape P d t l ∧ CR w l cs) :
    ∀ (fs : List Field) (o : Nat) (xs : List (DataW H × List MemPlace)), tiles P (plainT P d) c o fs = true → xs.length = fs.length →
      (∀ (i : Nat) (f : Field), fs[i]? = some f → DataW.trod enc P w base spare held fuel f.type ((cs.drop f.offset).take (P.cellsOf f.type)) = xs[i]?) →
      (∀ n ∈ DataW.weightsEach P (fs.map (·.type)) (xs.map (·.1)), n ≤ reachBytes) → ∃ l, ShapeFs (Shape P d) fs l ∧ CR w l (cs.drop o)
  | [], o, xs, ht, _, _, _ => by
    have ho : o = c := by simpa [tiles] using ht
    subst ho
    exact ⟨[], rfl, by rw [← hc, List.drop_length]; exact CR.nil⟩
  | f :: fs, o, [], _, hl, _, _ => by simp at hl
  | f :: fs, o, x :: xs, ht, hl, hx, hw => by
    simp only [tiles, Bool.and_eq_true] at ht
    obtain ⟨h1, h2, h3⟩ := ht
    have ho : f.offset = o := by simpa using h1
    have hx0 := hx 0 f rfl
    simp only [List.getElem?_cons_zero] at hx0
    have hw0 : ∀ n ∈ x.1.weights P f.type, n ≤ reachBytes := fun n hn => hw n (by simp [DataW.weightsEach, hn])
    obtain ⟨l1, s1, c1⟩ := ih _ _ _ h2 hx0 hw0
    obtain ⟨l2, s2, c2⟩ := fs_shape hc ih fs (o + P.cellsOf f.type) xs h3 (by simpa using hl) (fun i g hg => by simpa using hx (i + 1) g (by simpa using hg))
      (fun n hn => hw n (by simp only [List.map_cons, DataW.weightsEach, List.mem_append]; exact Or.inr hn))
    refine ⟨l1 ++ l2, ⟨l1, l2, rfl, s1, s2⟩, ?_⟩
    have := c1.append c2
    rw [ho, ← List.drop_drop, List.take_append_drop] at this
    exact this

theorem arr_shape {d : Nat} {fuel : Nat} {e : TypeId} (he : plainT P d e = true)
    (ih : ∀ (t : TypeId) (cs : List Value) (x : DataW H × List MemPlace), plainT P d t = true → DataW.trod enc P w base spare held fuel t cs = some x → (∀ n ∈ x.1.weights P t, n ≤ reachBytes) → ∃ l, Shape P d t l ∧ CR w l cs) :
    ∀ (n : Nat) (cs : List Value) (xs : List (DataW H × List MemPlace)), cs.length = n * P.cellsOf e → xs.length = n →
      (∀ i, i < n → DataW.trod enc P w base spare held fuel e ((cs.drop (i * P.cellsOf e)).take (P.cellsOf e)) = xs[i]?) →
      (∀ m ∈ DataW.weightsAll P e (xs.map (·.1)), m ≤ reachBytes) → ∃ l, ShapeN (Shape P d e) n l ∧ CR w l cs
  | 0, cs, xs, hc, _, _, _ => by
    obtain rfl : cs = [] := List.length_eq_zero_iff.1 (by omega)
    exact ⟨[], rfl, CR.nil⟩
  | n + 1, cs, [], _, hl, _, _ => by simp at hl
  | n + 1, cs, x :: xs, hc, hl, hx, hw => by
    have hx0 := hx 0 (by omega)
    simp only [List.getElem?_cons_zero, Nat.zero_mul, List.drop_zero] at hx0
    obtain ⟨l1, s1, c1⟩ := ih _ _ _ he hx0 (fun m hm => hw m (by simp [DataW.weightsAll, hm]))
    obtain ⟨l2, s2, c2⟩ := arr_shape he ih n (cs.drop (P.cellsOf e)) xs (by rw [List.length_drop, hc, Nat.succ_mul]; omega) (by simpa using hl) (fun i hi => by
      have := hx (i + 1) (by omega)
      rw [List.drop_drop]
      rw [Nat.succ_mul, Nat.add_comm] at this
      simpa using this) (fun m hm => hw m (by simp only [List.map_cons, DataW.weightsAll, List.mem_append]; exact Or.inr hm))
    refine ⟨l1 ++ l2, ⟨l1, l2, rfl, s1, s2⟩, ?_⟩
    have := c1.append c2
    rw [List.take_append_drop] at this
    exact this

theorem trod_shape : ∀ (d : Nat) (t : TypeId) (fuel : Nat) (cs : List Value) (x : DataW H × List MemPlace), plainT P d t = true → DataW.trod enc P w base spare held fuel t cs = some x →
    (∀ n ∈ x.1.weights P t, n ≤ reachBytes) → ∃ l, Shape P d t l ∧ CR w l cs
  | 0, t, fuel, cs, x, hp, _, _ => by simp [plainT] at hp
  | d + 1, t, fuel, cs, x, hp, h, hw => by
    have hrb : reachBytes ≤ 140737488355328 := by decide
    unfold plainT at hp
    unfold Shape
    cases hu : P.underlying t with
    | none => rw [hu] at hp; cases hp
    | some k =>
      rw [hu] at hp
      cases k with
      | bool =>
        obtain ⟨b, rfl, rfl⟩ := DataW.trod_bool hu h
        exact ⟨[.bool b], ⟨b, rfl⟩, CR.one .bool⟩
      | int k =>
        obtain ⟨n, rfl, rfl, hf⟩ := DataW.trod_int hu h
        exact ⟨[.int k n], ⟨n, rfl, hf⟩, CR.one .int⟩
      | string =>
        obtain ⟨s, rfl, rfl, _⟩ := DataW.trod_string hu h
        have := hw s.data.toList.length (by simp [DataW.weights])
        exact ⟨[.str s], ⟨s, rfl, by simp only [Array.length_toList, ByteArray.size_data] at this; omega⟩, CR.one .str⟩
      | slice e =>
        simp only [Bool.and_eq_true] at hp
        obtain ⟨hp, hz, hb⟩ := hp
        have hz : 0 < P.cellsOf e := by simpa using hz
        have hb : 0 < P.bytesOf e := by simpa using hb
        rcases DataW.trod_slice hu h with ⟨rfl, rfl⟩ | ⟨a, len, cap, elems, rest, n, rfl, rfl, rfl, ha, hlc, _, hel, hat, _, _⟩
        · exact ⟨[.seq (P.cellsOf e) 0 fun _ => []], ⟨0, _, rfl, by omega, fun i hi => by omega⟩, CR.one (.seq none 0 0 0 (fun _ _ => .bool false) (by omega) (Nat.le_refl _) (fun i hi => by omega) (fun i j hi => by omega) (fun i j s hi => by omega) (fun _ => rfl))⟩
        · have hlen : len ≤ 140737488355328 := by
            have := hw ((elems.map (·.1)).length + (rest.map (·.1)).length |> (· * P.bytesOf e)) (by simp [DataW.weights, hu])
            have h2 : len * 1 ≤ (elems.length + rest.length) * P.bytesOf e := Nat.mul_le_mul (by omega) (by omega)
            simp only [List.length_map] at this
            omega
          have key : ∀ i, i < len → ∃ ci l, w.cells? base (a.add (i * P.cellsOf e)) (P.cellsOf e) = some ci ∧ Shape P d e l ∧ CR w l ci := by
            intro i hi
            have h1 := hat i hi
            obtain ⟨y, hy⟩ : ∃ y, elems[i]? = some y := ⟨elems[i]'(by omega), by simp⟩
            rw [hy, Option.bind_eq_some_iff] at h1
            obtain ⟨ci, h2, h3⟩ := h1
            obtain ⟨l, h4, h5⟩ := trod_shape d e n ci y hp h3 (fun m hm => hw m (by
              simp only [DataW.weights, hu, List.mem_cons, List.mem_append]
              exact Or.inr (Or.inl (weights_all (i := i) (by simp [hy]) m hm))))
            exact ⟨ci, l, h2, h4, h5⟩
          let C (i : Nat) : List Value := if hi : i < len then Classical.choose (key i hi) else []
          let F (i : Nat) : List V := if hi : i < len then Classical.choose (Classical.choose_spec (key i hi)) else []
          have hF : ∀ i, i < len → w.cells? base (a.add (i * P.cellsOf e)) (P.cellsOf e) = some (C i) ∧ Shape P d e (F i) ∧ CR w (F i) (C i) := by
            intro i hi
            show w.cells? base (a.add (i * P.cellsOf e)) (P.cellsOf e) = some (if hi : i < len then Classical.choose (key i hi) else []) ∧ Shape P d e (if hi : i < len then Classical.choose (Classical.choose_spec (key i hi)) else []) ∧
              CR w (if hi : i < len then Classical.choose (Classical.choose_spec (key i hi)) else []) (if hi : i < len then Classical.choose (key i hi) else [])
            rw [dif_pos hi, dif_pos hi]
            exact Classical.choose_spec (Classical.choose_spec (key i hi))
          have hsp : 0 < len → a.spot = none := by
            intro h0
            obtain ⟨h1, h2, h3⟩ := hF 0 h0
            obtain ⟨h4, h5⟩ := cells_len h1
            have h6 := h5 0 hz
            simp only [Nat.zero_mul] at h6
            have e0 : (a.add 0).add 0 = a := rfl
            rw [e0] at h6
            cases hc : (C 0)[0]? with
            | none => rw [List.getElem?_eq_none_iff] at hc; omega
            | some v => rw [hc] at h6; exact spot_none h6
          refine ⟨[.seq (P.cellsOf e) len F], ⟨len, F, rfl, hlen, fun i hi => (hF i hi).2.1⟩, CR.one ?_⟩
          refine .seq (some a) a.block a.off cap (fun i j => ((C i)[j]?).getD (.bool false)) (fun h0 => ?_) hlc (fun i hi => ?_) (fun i j hi hj => ⟨id, ?_⟩) (fun i j s hi hj => ?_) (fun h => by cases h)
          · have := hsp h0
            obtain ⟨b, o, s⟩ := a
            simp only at this
            rw [this]
          · rw [(hF i hi).2.2.1, (cells_len (hF i hi).1).1]
          · obtain ⟨h4, h5⟩ := cells_len (hF i hi).1
            have h6 := h5 j hj
            rw [add_add a _ _ (hsp (by omega))] at h6
            rw [h6]
            cases hc : (C i)[j]? with
            | none => rw [List.getElem?_eq_none_iff] at hc; omega
            | some v => rfl
          · obtain ⟨u, h1, h2⟩ := (hF i hi).2.2.2 j s hj
            rw [h1]
            exact h2
      | struct fs =>
        obtain ⟨xs, n, rfl, rfl, hl, hlx, hat⟩ := DataW.trod_struct hu h
        have hh : ∀ m ∈ DataW.weightsEach P (fs.toList.map (·.type)) (xs.map (·.1)), m ≤ reachBytes := by
          simpa [DataW.weights, hu] using hw
        obtain ⟨l, h1, h2⟩ := fs_shape hl (fun t cs x h1 h2 h3 => trod_shape d t n cs x h1 h2 h3) fs.toList 0 xs hp (by simpa using hlx) (fun i f hf => hat i f (by simpa using hf)) hh
        exact ⟨l, h1, h2⟩
      | array n e =>
        simp only [Bool.and_eq_true] at hp
        obtain ⟨hp, hz⟩ := hp
        have hz : P.cellsOf t = n * P.cellsOf e := by simpa using hz
        obtain ⟨xs, m, rfl, rfl, hl, hlx, hat⟩ := DataW.trod_array hu h
        have hh : ∀ k ∈ DataW.weightsAll P e (xs.map (·.1)), k ≤ reachBytes := by
          simpa [DataW.weights, hu] using hw
        exact arr_shape hp (fun t cs x h1 h2 h3 => trod_shape d t m cs x h1 h2 h3) n cs xs (hl.trans hz) hlx hat hh
      | _ => cases hp

/-- An argument's value: one cell, or a struct of cells. -/
def isRow (P : Program) (t : TypeId) : Bool := match P.underlying t with
  | some (.struct _) => true
  | some (.array _ _) => true
  | _ => false
def argV (P : Program) (t : TypeId) (l : List V) : V := if isRow P t then .agg l else l.headD .junk

theorem one_cells {v : Value} (h : v.oneCell' = true) : v.cells.toList = [v] := by
  cases v <;> first | rfl | simp [Value.oneCell'] at h

theorem arg_ok {d : Nat} {t : TypeId} {v : Value} {x : DataW H} {ps : List MemPlace} {b0 : Nat} {σ : Nat → Option Value} (hp : plainT P d t = true) (hval : Value.okWide P w .any b0 t v) (hd : DataW.Trod enc P w base spare held t v x ps)
    (hw : ∀ n ∈ x.weights P t, n ≤ reachBytes) : ∃ l, Shape P d t l ∧ CV σ w (fun _ => False) (argV P t l) v := by
  obtain ⟨fuel, hf⟩ := hd
  obtain ⟨l, h1, h2⟩ := trod_shape d t fuel _ _ hp hf hw
  refine ⟨l, h1, ?_⟩
  have agg : ∀ cs : Array Value, v = .agg cs → CV σ w (fun _ => False) (.agg l) v := by
    rintro cs rfl
    have h2 : CR w l cs.toList := h2
    refine .agg cs (fun j => (cs[j]?).getD (.bool false)) (by have := h2.1; simpa using this.symm) (fun j hj => ?_) (fun j hj => ?_) (fun j s hj => ?_)
    · have : j < cs.size := by have := h2.1; simp at this; omega
      simp [this]
    · obtain ⟨u, h3, h4⟩ := h2.2 j (l[j]'hj) (by simp)
      have h3 : cs[j]? = some u := by simpa using h3
      rw [h3]; exact h4.oneCell
    · obtain ⟨u, h3, h4⟩ := h2.2 j s hj
      have h3 : cs[j]? = some u := by simpa using h3
      rw [h3]; exact .data h4
  have one : v.oneCell' = true → CV σ w (fun _ => False) (l.headD .junk) v := by
    intro h1
    rw [one_cells h1] at h2
    have hl : l.length = 1 := by simpa using h2.1
    obtain ⟨s, rfl⟩ := List.length_eq_one_iff.1 hl
    obtain ⟨u, h3, h4⟩ := h2.2 0 s rfl
    simp at h3
    subst h3
    exact .data h4
  unfold argV isRow
  unfold plainT at hp
  cases d with
  | zero => simp [plainT] at hp
  | succ d =>
    simp only [] at hp
    cases hu : P.underlying t with
    | none => rw [hu] at hp; cases hp
    | some k =>
      rw [hu] at hp
      cases k with
      | bool => obtain ⟨b, rfl⟩ := okWide_bool hu hval; exact one rfl
      | int k => obtain ⟨b, rfl⟩ := okWide_int hu hval; exact one rfl
      | string => obtain ⟨b, rfl⟩ := okWide_string hu hval; exact one rfl
      | slice e => obtain ⟨a, n, c, rfl⟩ := okWide_slice hu hval; exact one rfl
      | struct fs => obtain ⟨cs, h3, _⟩ := okWide_struct hu hval; exact agg cs h3
      | array n e =>
        simp only [Value.okWide, hu] at hval
        obtain ⟨cs, h3, _⟩ := hval
        exact agg cs h3
      | _ => cases hp

def ArgsOk (P : Program) (d : Nat) : List TypeId → List V → Prop
  | [], [] => True
  | t :: ts, s :: ss => (∃ l, Shape P d t l ∧ s = argV P t l) ∧ ArgsOk P d ts ss
  | _, _ => False

theorem args_ok {d : Nat} {b0 : Nat} {σ : Nat → Option Value} : ∀ {ts : List TypeId} {vs : List Value} {ds : List (DataW H)} {ps : List MemPlace}, ts.all (plainT P d) = true → DataW.TrodAll enc P w base spare held ts vs ds ps →
    (∀ (j : Nat) t v, ts[j]? = some t → vs[j]? = some v → Value.okWide P w .any b0 t v) → (∀ n ∈ DataW.weightsEach P ts ds, n ≤ reachBytes) →
    ∃ ss, ArgsOk P d ts ss ∧ vs.length = ss.length ∧ ∀ (j : Nat) (s : V), ss[j]? = some s → ∃ v, vs[j]? = some v ∧ CV σ w (fun _ => False) s v
  | [], vs, ds, ps, _, h, _, _ => by
    obtain ⟨rfl, rfl, rfl⟩ := trodAll_nil h
    exact ⟨[], trivial, rfl, fun j s h => by simp at h⟩
  | t :: ts, vs, ds, ps, hp, h, hv, hw => by
    obtain ⟨v, vs, x, ds, p, q, rfl, rfl, rfl, h1, h2⟩ := trodAll_cons h
    simp only [List.all_cons, Bool.and_eq_true] at hp
    obtain ⟨l, h3, h4⟩ := arg_ok (σ := σ) hp.1 (hv 0 t v rfl rfl) h1 (fun n hn => hw n (by simp [DataW.weightsEach, hn]))
    obtain ⟨ss, h5, h6, h7⟩ := args_ok (σ := σ) hp.2 h2 (fun j t v hj hj' => hv (j + 1) t v (by simpa using hj) (by simpa using hj')) (fun n hn => hw n (by simp only [DataW.weightsEach, List.mem_append]; exact Or.inr hn))
    refine ⟨argV P t l :: ss, ⟨⟨l, h3, rfl⟩, h5⟩, by simp [h6], fun j s hj => ?_⟩
    cases j with
    | zero => simp at hj; subst hj; exact ⟨v, rfl, h4⟩
    | succ j => obtain ⟨u, h8, h9⟩ := h7 j s (by simpa using hj); exact ⟨u, by simpa using h8, h9⟩

theorem args_one {d : Nat} {t : TypeId} {ss : List V} (h : ArgsOk P d [t] ss) : ∃ l, ss = [argV P t l] ∧ Shape P d t l := by
  cases ss with
  | nil => exact h.elim
  | cons s ss =>
    obtain ⟨⟨l, h1, h2⟩, h3⟩ := h
    cases ss with
    | nil => exact ⟨l, by rw [h2], h1⟩
    | cons s ss => exact h3.elim
theorem args_cons {d : Nat} {t : TypeId} {ts : List TypeId} {ss : List V} (h : ArgsOk P d (t :: ts) ss) : ∃ l ss', ss = argV P t l :: ss' ∧ Shape P d t l ∧ ArgsOk P d ts ss' := by
  cases ss with
  | nil => exact h.elim
  | cons s ss =>
    obtain ⟨⟨l, h1, h2⟩, h3⟩ := h
    exact ⟨l, ss, by rw [h2], h1, h3⟩

theorem trodAll_stays (hl : laidOutB P = true) {W W' : World} {sp : Nat → Bool} (hs : ∀ p : MemPlace, p.block < W.heap.size → W.sameAt W' p) : ∀ {ts : List TypeId} {vs : List Value} {ds : List (DataW H)} {ps : List MemPlace},
    ts.all (fun t => P.readableRec t && Nat.blt t P.types.size) = true → DataW.TrodAll enc P W base (fun _ => true) true ts vs ds ps → (∀ p ∈ ps, p.block < W.heap.size ∧ sp p.block = true) → DataW.TrodAll enc P W' base sp true ts vs ds ps
  | [], vs, ds, ps, _, h, _ => by
    obtain ⟨rfl, rfl, rfl⟩ := trodAll_nil h
    rfl
  | t :: ts, vs, ds, ps, hr, h, hp => by
    obtain ⟨v, vs, x, ds, p, q, rfl, rfl, rfl, h1, h2⟩ := trodAll_cons h
    simp only [List.all_cons, Bool.and_eq_true] at hr
    refine ⟨p, q, WideElems.Trod_stays hl hr.1.1 (by simpa using hr.1.2) h1 (fun y hy => hs y (hp y (by simp [hy])).1) (fun y hy => (hp y (by simp [hy])).2), ?_, rfl⟩
    exact trodAll_stays hl hs (by simpa using hr.2) h2 (fun y hy => hp y (by simp [hy]))

theorem trodAll_len : ∀ {ts : List TypeId} {vs : List Value} {ds : List (DataW H)} {ps : List MemPlace}, DataW.TrodAll enc P w base spare held ts vs ds ps → ds.length = ts.length
  | [], vs, ds, ps, h => by
    obtain ⟨rfl, rfl, rfl⟩ := trodAll_nil h
    rfl
  | t :: ts, vs, ds, ps, h => by
    obtain ⟨v, vs, x, ds, p, q, rfl, rfl, rfl, h1, h2⟩ := trodAll_cons h
    simp [trodAll_len h2]

/-- THE CLOSE of a law: its function, on whatever plain arguments, hands back true. -/
theorem law_close {fn : Func} {f : FuncId} {s : ChangeSpec} {tb : TypeId} {apart fresh handsOn again : Bool} (d : Nat) (hpl : fn.params.toList.all (plainT P d) = true) (hvars : s.vars = []) (hres : fn.resultTypes = #[tb]) (htb : P.underlying tb = some .bool)
    (hfn : ∀ (ds : List (DataW H)), ds.length = fn.params.toList.length → s.fn H ds = { results := [.lit (.bool true)], args := ds }) (hl : laidOutB P = true) (hr : fn.params.toList.all (fun t => P.readableRec t && Nat.blt t P.types.size) = true)
    (h : ∀ ss : List V, ArgsOk P d fn.params.toList ss → SpecD P f ss (.bool true))
    (W : World) (base : Nat) (args : Array Value) (ds gs : List (DataW H)) (before : List MemPlace)
    (hval : ∀ (j : Nat) t v, fn.params[j]? = some t → args[j]? = some v → Value.okWide P W .any base t v)
    (hW : DataW.Whole enc P fn.params.toList s.vars apart W args.toList ds gs before)
    (hsz : (DataW.weightsEach P (fn.params.toList ++ s.plain.varTypes P) (ds ++ gs)).all (· ≤ reachBytes) = true) :
    Calls P f args W fun e W' => ∃ v, e = .returned v ∧ s.post enc P fn apart fresh handsOn again W args v W' := by
  have hW' := hW
  obtain ⟨p, q, hA, hV, rfl, hfz, hnd⟩ := hW
  rw [hvars] at hV
  obtain ⟨rfl, rfl⟩ : gs = [] ∧ q = [] := by
    cases gs with
    | nil => exact ⟨rfl, hV⟩
    | cons g gs => exact absurd hV id
  have hvt : s.plain.varTypes P = [] := by unfold DataSpec.varTypes ChangeSpec.plain; rw [hvars]; rfl
  simp only [hvt, List.append_nil] at hsz hfz hW' hnd
  have hlt : ∀ x ∈ p, x.block < W.heap.size := fun x hx => hW'.lt x hx
  have hfn := hfn ds (trodAll_len hA)
  let E : Env := { w0 := W, bad0 := fun _ => False, wr := fun _ => False }
  obtain ⟨ss, h1, h2, h3⟩ := args_ok (σ := fun _ => none) hpl hA (fun j t v hj hv => hval j t v (by simpa using hj) (by simpa using hv)) (fun n hn => by simpa using List.all_eq_true.1 hsz n hn)
  have hmem : Mem E (fun _ => none) [] W := ⟨by intro k B h; simp [aget] at h, by intro k B b h; simp [aget] at h, by intro k k' B B' b h; simp [aget] at h, rfl, rfl, rfl, Nat.le_refl _, fun _ _ _ => rfl, fun b h => h.elim⟩
  refine ((h ss h1).2 E (fun _ => none) args hmem (fun _ _ => rfl) (by simpa using h2) (fun j s hj => ?_)).mono fun e W' hq => ?_
  · obtain ⟨v, h4, h5⟩ := h3 j s hj
    exact ⟨v, by simpa using h4, h5.mono (fun _ _ h => h) (fun b hb _ => ⟨fun hb => hb.elim id (fun ⟨k, B, hk, _⟩ => by cases hk), rfl⟩)⟩
  · obtain ⟨v, σ', rfl, _, h5, h6⟩ := hq
    obtain rfl : v = .bool true := by
      cases h5 with
      | data h => cases h; rfl
    have hb : Below W.heap.size W W' := ⟨h6.os, h6.tape, h6.output, h6.size, fun k hk => h6.old k hk id⟩
    refine ⟨_, rfl, ds, [], p, [], p, [], hW', ?_, ?_, ?_, hb.frame _, fun _ => ⟨?_, [.lit (.bool true)] ++ ds, [], [] ++ p, ?_, fun x hx _ => by simpa using hx⟩⟩
    · rw [List.append_nil, hfn, hres]; exact trodAll_cons_mk (shut_bool htb _) rfl
    · rw [List.append_nil, hfn]
      exact trodAll_stays hl (fun x hx => hb.same hx) hr hA (fun x hx => ⟨hlt x hx, by simpa using hlt x hx⟩)
    · rw [List.append_nil, hfn, hvars]; rfl
    · exact ok_one hres rfl (okWide_bool_mk htb _)
    · refine ⟨[] ++ p, [], trodAll_append (trodAll_stays hl (fun x hx => hb.same hx) hr hA (fun x hx => ⟨hlt x hx, rfl⟩)) (by rw [hres]; exact trodAll_cons_mk (shut_bool htb _) rfl), by rw [hvars]; rfl, by simp, ?_, fun ha => by simpa using hnd ha⟩
      intro b off hx
      have hx : MemPlace.cell b off ∈ p := by simpa using hx
      rw [hb.frozen (hlt _ hx)]
      exact hfz b off hx
end

/-- A row without anything: nil, or not. -/
theorem Spec.nil_or {P : Program} {f : FuncId} {sz : Nat} {g : Nat → List V} {r : V} {bx1 : List (Nat × Box)} (h1 : Spec P f 0 [.nilsl] [] r bx1) (h2 : Spec P f 0 [.esl] [] r bx1) : Spec P f 0 [.seq sz 0 g] [] r bx1 :=
  ⟨h1.1, fun E σ vals hm hf hs hc => by
    obtain ⟨v, hv, cv⟩ := hc 0 _ rfl
    cases cv with
    | data h =>
      cases h with
      | seq o b off c u ho hnc hl hc' hd hz =>
        cases o with
        | none =>
          have := hz rfl
          subst this
          refine h1.2 E σ vals hm hf hs fun j s hj => ?_
          cases j with
          | zero => simp at hj; subst hj; exact ⟨_, hv, .data .nilsl⟩
          | succ j => simp at hj
        | some a =>
          refine h2.2 E σ vals hm hf hs fun j s hj => ?_
          cases j with
          | zero => simp at hj; subst hj; exact ⟨_, hv, .data (.esl a c)⟩
          | succ j => simp at hj⟩

/-- A contract for arguments of which more is known. -/
theorem SpecD.args {P : Program} {f : FuncId} {ss rs : List V} {r : V} (h : SpecD P f rs r) (hl : LeL ss rs) : SpecD P f ss r :=
  ⟨h.1, fun E σ vals hm hf hs hc => h.2 E σ vals hm hf (by rw [hs, hl.get.1]) (fun j s hj => by
    obtain ⟨s', h1, h2⟩ := hl.get.2 j s hj
    obtain ⟨v, h3, h4⟩ := hc j s' h1
    exact ⟨v, h3, h2 _ _ _ _ h4⟩)⟩
end Go.Hb
