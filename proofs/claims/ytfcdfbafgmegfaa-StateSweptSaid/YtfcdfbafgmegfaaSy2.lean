/-
  THE SYMBOLIC LAYER, PART G: the operations of part F are right.
-/
import Derived.Test.YtfcdfbafgmegfaaSy1
namespace Go.Hb
open Go.RowKit

def evAlloc (P : Program) (key : Nat) (t : TypeId) : Option Eff :=
  match zeroL P t with
  | some l => some (.new (.cells t l) (.ptr key 0))
  | none => none

def evBox (S : St) (key : Nat) (t : TypeId) (x : Operand) : Option Eff :=
  match evo S.fr x with
  | some s => match cellsOf S.bx s with
    | some l => some (.new (.cells t l) (.ptr key 0))
    | none => none
  | none => none

def evMakeSlice (P : Program) (S : St) (key : Nat) (t : TypeId) (l c : Operand) : Option (Eff × List Prop) :=
  match evo S.fr l, evo S.fr c, P.underlying t with
  | some (.int _ x), some (.int _ y), some (.slice e) => match P.info? e, szT P e, zeroL P e with
    | some i, some sz, some z => match Nat.beq z.length sz && allD z with
      | true => some (.new (.vec e sz x.toNat fun _ => z) (.vec key), [0 ≤ x ∧ y = x, i.bytes * x.toNat ≤ 281474976710656 ∧ x.toNat ≤ maxLen])
      | false => none
    | _, _, _ => none
  | _, _, _ => none

def evMakeMap (P : Program) (key : Nat) (t : TypeId) (r : Option Operand) : Option Eff :=
  match r with
  | some _ => none
  | none => match P.underlying t with
    | some (.map _ e) => match P.underlying e with
      | some .bool => some (.new (.mapB 0 fun _ => none) (.map key))
      | some (.int .i64) => some (.new (.mapI 0 fun _ => none) (.map key))
      | some (.func _ _ _) => some (.new (.mapF 0 fun _ => none) (.map key))
      | _ => none
    | _ => none

/-- The model's run of an operation ends where 'Eff.app' says. -/
def Good (E : Env) (σ : Nat → Option Value) (S : St) (key : Nat) (a : Act) (r : Result Next) (dst : Option Tmp) (e : Eff) : Prop :=
  ∃ n v w' σ', r = .ok n w' ∧ (n = .value v ∨ (n = .skip ∧ v = undef)) ∧ (∀ k x, σ k = some x → σ' k = some x) ∧ (∀ k, k ≠ key → σ' k = σ k) ∧ Rel E σ' (e.app S key dst) (a.put dst v) w'

section
variable {P : Program} {E : Env} {σ σ' : Nat → Option Value} {S V0 : St} {a : Act} {w w' : World} {bad : Nat → Prop} {key : Nat} {dst : Option Tmp} {r : Result Next}

theorem Good.val {s : V} {v : Value} (h : Rel E σ S a w) (ht : ∀ t, dst = some t → t < S.nt) (hc : CV σ w (badOf E σ S.bx) s v) : Good E σ S key a (.ok (.value v) w) dst (.val s) :=
  ⟨_, v, w, σ, rfl, .inl rfl, fun _ _ h => h, fun _ _ => rfl, h.slot ht hc⟩

theorem Good.new {B : Box} {s : V} {v v1 : Value} (h : Rel E σ S a w) (ht : ∀ t, dst = some t → t < S.nt) (hf : σ key = none) (g : w.grownBy w' none)
    (hblk : ∀ b, blkOf (some v1) = some b → w.heap.size ≤ b ∧ b < w'.heap.size)
    (hB : (∀ b, b < w.heap.size → ¬ badOf E σ S.bx b → ¬ badOf E (fun k => if k = key then some v1 else σ k) (aput S.bx key B) b ∧ w'.heap[b]? = w.heap[b]?) →
      BRel (fun k => if k = key then some v1 else σ k) w' (badOf E (fun k => if k = key then some v1 else σ k) (aput S.bx key B)) key B)
    (hs : CV (fun k => if k = key then some v1 else σ k) w' (badOf E (fun k => if k = key then some v1 else σ k) (aput S.bx key B)) s v) : Good E σ S key a (.ok (.value v) w') dst (.new B s) := by
  have h1 := h.add hf g hblk hB
  refine ⟨_, v, w', _, rfl, .inl rfl, fun k x hx => ?_, fun k hk => ?_, h1.slot ht hs⟩
  · show (if k = key then some v1 else σ k) = some x
    rw [if_neg (fun e => by rw [e, hf] at hx; cases hx)]; exact hx
  · show (if k = key then some v1 else σ k) = σ k
    rw [if_neg hk]

theorem fresh_mono (hf : σ key = none) (v1 : Value) : ∀ k v, σ k = some v → (fun k => if k = key then some v1 else σ k) k = some v := by
  intro k v hv
  show (if k = key then some v1 else σ k) = some v
  rw [if_neg (fun e => by rw [e, hf] at hv; cases hv)]; exact hv

/-- A new variable. -/
theorem Good.newVar {t : TypeId} {l : List V} {cs : Array Value} (h : Rel E σ S a w) (ht : ∀ t, dst = some t → t < S.nt) (hf : σ key = none) (hr : Row σ w (badOf E σ S.bx) l cs) (s : V) (v : Value)
    (hs : ∀ (σ' : Nat → Option Value) w' bad', σ' key = some (.pointer (some ⟨w.heap.size, 0, none⟩)) → CV σ' w' bad' s v) :
    Good E σ S key a (.ok (.value v) (w.alloc (.cells cs t))) dst (.new (.cells t l) s) := by
  refine Good.new (v1 := .pointer (some ⟨w.heap.size, 0, none⟩)) h ht hf (World.grownBy_alloc w _ none) (fun b hb => ?_) (fun hm => ?_) ?_
  · simp [blkOf] at hb; subst hb; exact ⟨Nat.le_refl _, by simp⟩
  · have h2 := hr.mono (fresh_mono hf (.pointer (some ⟨w.heap.size, 0, none⟩))) hm
    refine .cells w.heap.size cs (by simp) (heap_alloc_new w _) h2.1 h2.2
  · exact hs _ _ _ (by simp)

theorem run_newVar (t : TypeId) (v : Value) (w : World) : (newVar t v).run P w = .ok ⟨w.heap.size, 0, none⟩ (w.alloc (.cells v.cells t)) := rfl

theorem good_alloc {t : TypeId} {e : Eff} (he : evAlloc P key t = some e) (h : Rel E σ S a w) (ht : ∀ t, dst = some t → t < S.nt) (hf : σ key = none) :
    ∃ v w', (Instr.alloc t true (.tuple #[])).run P w = .ok v w' ∧ Good E σ S key a (.ok (.value v) w') dst e := by
  unfold evAlloc at he
  split at he
  · rename_i l hz
    injection he with he; subst he
    obtain ⟨i, z, hi, hz, hr⟩ := zeroL_ok (σ := σ) hz w (badOf E σ S.bx)
    refine ⟨_, _, ?_, Good.newVar (t := t) h ht hf hr (.ptr key 0) (.pointer (some ⟨w.heap.size, 0, none⟩)) fun σ' w' bad' hk => .ptr _ hk⟩
    simp [Instr.alloc, run_zeroValue hi hz, run_newVar]
  · cases he

theorem good_box {t : TypeId} {x : Operand} {e : Eff} (he : evBox V0 key t x = some e) (hs : Sub V0 S) (h : Rel E σ S a w) (ht : ∀ t, dst = some t → t < S.nt) (hf : σ key = none) :
    ∃ v w', (Instr.box t (a.eval x)).run P w = .ok v w' ∧ Good E σ S key a (.ok (.value v) w') dst e := by
  unfold evBox at he
  split at he
  · rename_i s hx
    split at he
    · rename_i l hc
      injection he with he; subst he
      have hr : Row σ w (badOf E σ S.bx) l (a.eval x).cells := cellsOf_ok hs h hc (evo_ok hs h hx)
      refine ⟨_, _, ?_, Good.newVar (t := t) h ht hf hr (.ptr key 0) (.pointer (some ⟨w.heap.size, 0, none⟩)) fun σ' w' bad' hk => .ptr _ hk⟩
      simp [Instr.box, run_newVar]
    · cases he
  · cases he

theorem rep_row {l : List V} {z : Value} (hz : Row σ w bad l z.cells) : ∀ (n : Nat), Row σ w bad (rep n l) ((Array.range (n * z.cells.size)).map (z.cells[· % z.cells.size]!)) := by
  intro n
  induction n with
  | zero => refine ⟨by simp [rep], fun j r hj => by simp [rep] at hj⟩
  | succ n ih =>
    obtain ⟨h1, h2⟩ := ih
    refine ⟨by simp at h1; simp [rep, ← h1, hz.1, Nat.add_mul]; omega, fun j r hj => ?_⟩
    simp only [rep] at hj
    rw [List.getElem?_append] at hj
    by_cases hjl : j < l.length
    · rw [if_pos hjl] at hj
      obtain ⟨u, hu, h3⟩ := hz.2 j r hj
      refine ⟨u, ?_, h3⟩
      have hjz : j < z.cells.size := by rw [hz.1]; exact hjl
      have : j < (n + 1) * z.cells.size := by rw [Nat.add_mul]; omega
      simp [this, Nat.mod_eq_of_lt hjz]
      rw [getElem!_pos z.cells j hjz]
      rw [Array.getElem?_eq_getElem hjz] at hu
      simpa using hu
    · rw [if_neg hjl] at hj
      obtain ⟨u, hu, h3⟩ := h2 _ r hj
      refine ⟨u, ?_, h3⟩
      have hlt := (Array.getElem?_eq_some_iff.1 hu).1
      simp at hlt
      have hsz : z.cells.size = l.length := hz.1
      have : j < (n + 1) * z.cells.size := by rw [Nat.add_mul]; omega
      rw [← hu]
      have hj2 : j - l.length < n * z.cells.size := hlt
      have hmod : j % z.cells.size = (j - l.length) % z.cells.size := by
        rw [← hsz]; rw [Nat.mod_eq_sub_mod (by omega)]
      simp [this, hj2, hmod]

theorem placesL_ok (w : World) : ∀ {fs : List Field} {pl : List (Nat × Nat)}, placesL P fs = some pl → (fs.mapM fun f => do pure (f.offset, ← sizeOf f.type) : Sem (List (Nat × Nat))).run P w = .ok pl w
  | [], pl, h => by simp [placesL] at h; subst h; rfl
  | f :: fs, pl, h => by
    unfold placesL at h
    split at h
    · rename_i sz hsz
      split at h
      · rename_i r hr
        injection h with h; subst h
        have ih := placesL_ok w hr
        simp only [List.mapM_cons, Sem.run_bind, run_sizeOf hsz, Result.andThen_ok, Sem.run_pure, ih]
      · cases h
    · cases h

theorem run_evBuild {t : TypeId} {parts : Array (Nat × Operand)} {s : V} (he : evBuild P V0 t parts = some s) (hs : Sub V0 S) (h : Rel E σ S a w) :
    ∃ v, (Instr.build t (parts.map fun (i, x) => (i, a.eval x))).run P w = .ok v w ∧ CV σ w (badOf E σ S.bx) s v := by
  unfold evBuild at he
  split at he
  · rename_i z ps hz hp
    obtain ⟨i, zv, hi, hzv, hr⟩ := zeroL_ok (σ := σ) hz w (badOf E σ S.bx)
    obtain ⟨h1, h2⟩ := evParts_ok hs h hp
    have hq : (parts.map fun (i, x) => (i, a.eval x)).toList = parts.toList.map fun (p : Nat × Operand) => (p.1, a.eval p.2) := by simp
    split at he
    · rename_i fs ht
      split at he
      · rename_i pl hpl
        split at he
        · rename_i l hl
          injection he with he; subst he
          obtain ⟨ds, h3, h4⟩ := fillV_ok hl hr (qs := parts.toList.map fun (p : Nat × Operand) => (p.1, a.eval p.2)) (by simpa using h1) h2
          refine ⟨.agg ds, ?_, h4.agg⟩
          have hmap : (fs.mapM fun f => do pure (f.offset, ← sizeOf f.type) : Sem (Array (Nat × Nat))).run P w = .ok pl.toArray w := by
            have := placesL_ok w hpl
            rw [← Array.toArray_toList (xs := fs), List.mapM_toArray, map_eq_pure_bind, Sem.run_bind, this]
            rfl
          unfold Instr.build
          simp only [Sem.run_bind, run_zeroValue hi hzv, Result.andThen_ok, run_underlying ht, hmap, hq]
          have : (fun (i : Nat) => (pl.toArray)[i]?) = fun (i : Nat) => pl[i]? := by funext i; simp
          rw [this, h3]
          rfl
        · cases he
      · cases he
    · rename_i n e ht
      split at he
      · rename_i sz hsz
        split at he
        · rename_i l hl
          injection he with he; subst he
          obtain ⟨ds, h3, h4⟩ := fillV_ok hl hr (qs := parts.toList.map fun (p : Nat × Operand) => (p.1, a.eval p.2)) (by simpa using h1) h2
          refine ⟨.agg ds, ?_, h4.agg⟩
          unfold Instr.build
          simp only [Sem.run_bind, run_zeroValue hi hzv, Result.andThen_ok, run_underlying ht, run_sizeOf hsz, hq, h3]
          rfl
        · cases he
      · cases he
    · cases he
  · cases he

theorem good_buildSlice {t : TypeId} {len : Nat} {parts : Array (Nat × Operand)} {e : Eff} (he : evBuildSlice P V0 key t len parts = some e) (hs : Sub V0 S) (h : Rel E σ S a w) (ht : ∀ t, dst = some t → t < S.nt) (hf : σ key = none) :
    ∃ v w', (Instr.buildSlice t len (parts.map fun (i, x) => (i, a.eval x))).run P w = .ok v w' ∧ Good E σ S key a (.ok (.value v) w') dst e := by
  unfold evBuildSlice at he
  split at he
  · rename_i el htt
    split at he
    · rename_i sz z ps hsz hz hp
      obtain ⟨i, zv, hi, hzv, hr⟩ := zeroL_ok (σ := σ) hz w (badOf E σ S.bx)
      obtain ⟨h1, h2⟩ := evParts_ok hs h hp
      have hq : (parts.map fun (i, x) => (i, a.eval x)).toList = parts.toList.map fun (p : Nat × Operand) => (p.1, a.eval p.2) := by simp
      split at he
      · rename_i hb
        simp only [Bool.and_eq_true, Nat.beq_eq] at hb
        obtain ⟨hb1, hb2⟩ := hb
        have hb2 := Nat.le_of_ble_eq_true hb2
        split at he
        · rename_i l hl
          injection he with he; subst he
          have hzs : zv.cells.size = sz := by rw [hr.1]; exact hb1
          have hrep := rep_row hr len
          obtain ⟨ds, h3, h4⟩ := fillV_ok hl hrep (qs := parts.toList.map fun (p : Nat × Operand) => (p.1, a.eval p.2)) (by simpa using h1) h2
          refine ⟨_, _, ?_, Good.newVar (t := el) h ht hf h4 (.row key 0 len len) (.slice (some ⟨w.heap.size, 0, none⟩) len len) fun σ' w' bad' hk => .row _ hk⟩
          unfold Instr.buildSlice
          have hlim : ¬ (len * sz > 2 ^ 24) := by omega
          simp only [Sem.run_bind, run_underlying htt, Result.andThen_ok, run_sizeOf hsz, if_neg hlim]
          by_cases h0 : len * sz = 0
          · simp only [h0, if_true]
            rw [hzs, h0] at h3
            simp only [Sem.run_bind, Sem.run_pure, Result.andThen_ok, hq]
            have : (Array.range 0).map (fun x => (#[] : Array Value)[x % (#[] : Array Value).size]!) = (Array.range 0).map (zv.cells[· % sz]!) := by simp
            rw [this, h3]
            rfl
          · simp only [if_neg h0, Sem.run_bind, run_zeroValue hi hzv, Sem.run_pure, Result.andThen_ok, hq]
            rw [hzs] at h3
            rw [hzs, h3]
            rfl
        · cases he
      · cases he
    · cases he
  · cases he
end
end Go.Hb

/-
  THE SYMBOLIC LAYER, PART H: stores, append, make.
-/
namespace Go.Hb
open Go.RowKit
section
variable {P : Program} {E : Env} {σ σ' : Nat → Option Value} {S V0 : St} {a : Act} {w w' : World} {bad : Nat → Prop} {key : Nat} {dst : Option Tmp}

theorem grownBy_setRow (w : World) (g : Nat) (cs : Array Value) : w.grownBy (w.setRow g cs) (some g) :=
  ⟨rfl, rfl, rfl, by simp, fun k _ hk => setRow_other w g k cs (fun e => hk (by rw [e]))⟩

theorem Good.upd {k : Nat} {B0 B : Box} {b0 : Nat} (h : Rel E σ S a w) (ht : ∀ t, dst = some t → t < S.nt) (h0 : aget S.bx k = some B0) (hb0 : blkOf (σ k) = some b0) (g : w.grownBy w' (some b0))
    (hB : (∀ b, b < w.heap.size → ¬ badOf E σ S.bx b → ¬ badOf E σ (aput S.bx k B) b ∧ w'.heap[b]? = w.heap[b]?) → BRel σ w' (badOf E σ (aput S.bx k B)) k B) :
    Good E σ S key a (.ok .skip w') dst (.upd k B) :=
  ⟨_, undef, w', σ, rfl, .inr ⟨rfl, rfl⟩, fun _ _ h => h, fun _ _ => rfl, (h.write h0 hb0 g hB).slot ht .junk⟩

/-- Own cells rewritten. -/
theorem Good.updCells {k ty : Nat} {l l' : List V} {b : Nat} {cs cs' : Array Value} (h : Rel E σ S a w) (ht : ∀ t, dst = some t → t < S.nt) (h0 : aget S.bx k = some (.cells ty l))
    (hk : σ k = some (.pointer (some ⟨b, 0, none⟩))) (hh : w.heap[b]? = some (.cells cs ty (0, 0))) (hr : Row σ w (badOf E σ S.bx) l' cs') :
    Good E σ S key a (.ok .skip (w.setRow b cs')) dst (.upd k (.cells ty l')) := by
  refine Good.upd h ht h0 (b0 := b) (by rw [hk]; rfl) (grownBy_setRow w b cs') fun hm => ?_
  have h2 := hr.mono (σ' := σ) (fun _ _ h => h) hm
  exact .cells b cs' hk (setRow_heap w b cs cs' ty (0, 0) hh) h2.1 h2.2

theorem run_storeVar {t : TypeId} {sz : Nat} (hsz : szT P t = some sz) {v : Value} (hv : v.cells.size = sz) (h1 : ∀ u ∈ v.cells.toList, u.oneCell' = true) {b off : Nat} {cs : Array Value} {ty : TypeId}
    (hh : w.heap[b]? = some (.cells cs ty (0, 0))) (hle : off + sz ≤ cs.size) :
    (storeVar t ⟨b, off, none⟩ v).run P w = .ok () (w.setRow b (cs.toList.take off ++ v.cells.toList ++ cs.toList.drop (off + v.cells.size)).toArray) := by
  have := run_storeCells_at P b off ty v.cells.toList 0 cs w hh (by simp [hv]; omega) h1
  simp [storeVar, run_sizeOf hsz, hv]
  simpa [hv] using this

theorem Row.ones {l : List V} {cs : Array Value} (h : Row σ w bad l cs) : ∀ u ∈ cs.toList, u.oneCell' = true := by
  intro u hu
  obtain ⟨j, hj⟩ := List.mem_iff_getElem?.1 hu
  have hlt : j < l.length := by rw [← h.1]; simpa using (List.getElem?_eq_some_iff.1 hj).1
  obtain ⟨u', hu', _, h1⟩ := h.2 j _ (List.getElem?_eq_getElem hlt)
  have : u = u' := by simpa [hu'] using hj.symm
  rw [this]; exact h1

theorem splice_at {sz i i' off j m : Nat} (hm : off + m ≤ sz) (hj : j < sz) : (i' * sz + j < i * sz + off ↔ i' < i ∨ (i' = i ∧ j < off)) ∧ (i' * sz + j < i * sz + off + m ↔ i' < i ∨ (i' = i ∧ j < off + m)) := by
  rcases Nat.lt_trichotomy i' i with h | h | h
  · have : (i' + 1) * sz ≤ i * sz := Nat.mul_le_mul_right sz h
    rw [Nat.add_mul] at this
    constructor <;> constructor <;> omega
  · subst h
    constructor <;> constructor <;> omega
  · have : (i + 1) * sz ≤ i' * sz := Nat.mul_le_mul_right sz h
    rw [Nat.add_mul] at this
    constructor <;> constructor <;> omega

theorem take_splice {α : Type} (l ys : List α) (k N : Nat) (h : k + ys.length ≤ N) (hN : N ≤ l.length) :
    (l.take k ++ ys ++ l.drop (k + ys.length)).take N = (l.take N).take k ++ ys ++ (l.take N).drop (k + ys.length) := by
  have h1 : (l.take k ++ ys).length = k + ys.length := by simp; omega
  rw [List.take_append, h1, List.take_of_length_le (by omega), List.take_take, Nat.min_eq_left (by omega), List.drop_take]

theorem good_store {t : TypeId} {x v : Operand} {ans : Ans} {e : Eff} {obs : List Prop} (he : evStore P V0 t x v ans = some (e, obs)) (ho : AllP obs) (hs : Sub V0 S) (h : Rel E σ S a w) (ht : ∀ t, dst = some t → t < S.nt) :
    ∃ w', (Instr.storeAt t (a.eval x) (a.eval v)).run P w = .ok () w' ∧ Good E σ S key a (.ok .skip w') dst e := by
  unfold evStore at he
  split at he
  · rename_i s hv
    split at he
    · rename_i xs hxs
      have hrow : Row σ w (badOf E σ S.bx) xs (a.eval v).cells := cellsOf_ok hs h hxs (evo_ok hs h hv)
      split at he
      · rename_i sz hsz
        split at he
        · rename_i hz
          rw [Nat.beq_eq] at hz
          have hvs : (a.eval v).cells.size = sz := by rw [hrow.1]; exact hz
          split at he
          · rename_i k off hx
            have hxv := evo_ok hs h hx
            generalize a.eval x = y at hxv ⊢
            split at he
            · rename_i ty l hk
              have hbox := h.box k _ (hs.bx _ _ hk)
              cases hbox with
              | cells b cs hσ hh hsz' hc =>
                have hyv : y = .pointer (some ⟨b, off, none⟩) := by
                  cases hxv with
                  | data hd => cases hd
                  | ptr b' hb' =>
                    rw [hσ] at hb'
                    injection hb' with hb'; injection hb' with hb'; injection hb' with hb'; injection hb' with hb'
                    rw [hb']
                subst hyv
                have hl0 : Row σ w (badOf E σ S.bx) l cs := ⟨hsz', hc⟩
                have fin : off + xs.length ≤ l.length → ∃ w', (Instr.storeAt t (.pointer (some ⟨b, off, none⟩)) (a.eval v)).run P w = .ok () w' ∧ Good E σ S key a (.ok .skip w') dst (.upd k (.cells ty (l.take off ++ xs ++ l.drop (off + xs.length)))) := by
                  intro hle
                  refine ⟨_, ?_, Good.updCells h ht (hs.bx _ _ hk) hσ hh (hl0.splice hrow off hle)⟩
                  have := run_storeVar (P := P) (w := w) hsz hvs hrow.ones hh (off := off) (by rw [hsz']; omega)
                  simpa [Instr.storeAt, Instr.sureAddr] using this
                split at he
                · injection he with he; injection he with h1 h2; subst h1 h2
                  obtain ⟨hle, hl', _⟩ := ho
                  subst hl'
                  exact fin hle
                · split at he
                  · rename_i hle
                    injection he with he; injection he with h1 h2; subst h1 h2
                    rw [splice_eq]
                    exact fin (Nat.le_of_ble_eq_true hle)
                  · cases he
            · cases he
          · rename_i k sz' i off hx
            have hxv := evo_ok hs h hx
            generalize a.eval x = y at hxv ⊢
            split at he
            · rename_i ty sz'' n f hk
              split at he
              · rename_i hzz
                simp only [Bool.and_eq_true, Nat.beq_eq] at hzz
                obtain ⟨⟨rfl, hle⟩, hxd⟩ := hzz
                have hle := Nat.le_of_ble_eq_true hle
                injection he with he; injection he with h1 h2; subst h1 h2
                have hi : i < n := ho.1
                have hbox := h.box k _ (hs.bx _ _ hk)
                cases hbox with
                | vec v' vs hσ hown hl hc =>
                  obtain ⟨hlen, hown⟩ := hown
                  rcases hown with ⟨_, h0⟩ | ⟨g, cap, cur, rfl, _, hg, hnc, hcm, hcur, htake⟩
                  · omega
                  · have hyv : y = .pointer (some ⟨g, i * sz' + off, none⟩) := by
                      cases hxv with
                      | data hd => cases hd
                      | vptr b' n' c' hb' =>
                        rw [hσ] at hb'
                        injection hb' with hb'; injection hb' with hb'; injection hb' with hb'; injection hb' with hb'
                        rw [hb']
                    subst hyv
                    have hin : (i + 1) * sz' ≤ n * sz' := Nat.mul_le_mul_right sz' hi
                    have hin2 : n * sz' ≤ cap * sz' := Nat.mul_le_mul_right sz' hnc
                    rw [Nat.add_mul] at hin
                    have hfit : i * sz' + off + sz ≤ cur.size := by omega
                    have hrun := run_storeVar (P := P) (w := w) hsz hvs hrow.ones hg hfit
                    refine ⟨_, by simpa [Instr.storeAt, Instr.sureAddr] using hrun, Good.upd h ht (hs.bx _ _ hk) (b0 := g) (by rw [hσ]; rfl) (grownBy_setRow w g _) fun hm => ?_⟩
                    have hrow2 := hrow.mono (σ' := σ) (fun _ _ h => h) hm
                    have hxl : xs.length = (a.eval v).cells.size := hrow.1.symm
                    refine .vec _ (vs.take (i * sz' + off) ++ (a.eval v).cells.toList ++ vs.drop (i * sz' + off + xs.length)) hσ ⟨?_, .inr ⟨g, cap, _, rfl, Nat.zero_le _, setRow_heap w g cur _ ty (0, 0) hg, hnc, hcm, ?_, ?_⟩⟩ (fun j hj => ?_) fun i' j r hi' hr => ?_
                    · simp; omega
                    · simp; omega
                    · rw [← htake, hxl]
                      have hcl : (a.eval v).cells.size = (a.eval v).cells.toList.length := by simp
                      rw [hcl]
                      have h5 := take_splice cur.toList (a.eval v).cells.toList (i * sz' + off) (n * sz') (by simp; omega) (by simp; omega)
                      rw [List.append_assoc] at h5
                      exact h5
                    · by_cases hji : j = i
                      · subst hji
                        have := hl j hj
                        rw [if_pos rfl, splice_eq]; simp; omega
                      · rw [if_neg hji]; exact hl j hj
                    · have hjs : j < sz' := by
                        have hlt := (List.getElem?_eq_some_iff.1 hr).1
                        by_cases hji : i' = i
                        · subst hji
                          have := hl i' hi'
                          rw [if_pos rfl, splice_eq] at hlt; simp at hlt; omega
                        · rw [if_neg hji, hl i' hi'] at hlt; exact hlt
                      obtain ⟨s1, s2⟩ := splice_at (i := i) (i' := i') (off := off) (j := j) (m := xs.length) (sz := sz') hle hjs
                      have hii : (i' + 1) * sz' ≤ n * sz' := Nat.mul_le_mul_right sz' hi'
                      rw [Nat.add_mul] at hii
                      rw [List.append_assoc, List.getElem?_append]
                      simp only [List.length_take, hlen]
                      rw [Nat.min_eq_left (by omega)]
                      by_cases hji : i' = i
                      · subst hji
                        rw [if_pos rfl, splice_eq, List.append_assoc, List.getElem?_append] at hr
                        simp only [List.length_take, hl i' hi'] at hr
                        rw [Nat.min_eq_left (by omega)] at hr
                        by_cases hjo : j < off
                        · rw [if_pos hjo] at hr
                          rw [if_pos (by omega), List.getElem?_take, if_pos (by omega)]
                          rw [List.getElem?_take, if_pos hjo] at hr
                          obtain ⟨u, h1, h2⟩ := hc i' j r hi' hr
                          exact ⟨u, h1, h2.mono hm⟩
                        · rw [if_neg hjo, List.getElem?_append] at hr
                          rw [if_neg (by omega), List.getElem?_append]
                          simp only [Array.length_toList]
                          by_cases hjx : j - off < xs.length
                          · rw [if_pos hjx] at hr
                            rw [if_pos (by omega), show i' * sz' + j - (i' * sz' + off) = j - off from by omega]
                            obtain ⟨u, h1, h2, h3⟩ := hrow2.2 _ r hr
                            exact ⟨u, by simpa using h1, h2.toD (allD_get hxd _ r hr)⟩
                          · rw [if_neg hjx, List.getElem?_drop] at hr
                            rw [if_neg (by omega), List.getElem?_drop]
                            obtain ⟨u, h1, h2⟩ := hc i' _ r hi' hr
                            refine ⟨u, ?_, h2.mono hm⟩
                            rw [← h1]; congr 1; omega
                      · rw [if_neg hji] at hr
                        obtain ⟨u, h1, h2⟩ := hc i' j r hi' hr
                        refine ⟨u, ?_, h2.mono hm⟩
                        by_cases hlt : i' < i
                        · rw [if_pos (by omega), List.getElem?_take, if_pos (by omega)]; exact h1
                        · have : ¬ (i' * sz' + j < i * sz' + off + xs.length) := by rw [s2]; omega
                          rw [if_neg (by omega), List.getElem?_append]
                          simp only [Array.length_toList]
                          rw [if_neg (by omega), List.getElem?_drop, ← h1]; congr 1; omega
              · cases he
            · cases he
          · cases he
        · cases he
      · cases he
    · cases he
  · cases he
end
end Go.Hb

/-
  THE SYMBOLIC LAYER, PART I: append, make.
-/
namespace Go.Hb
open Go.RowKit
section
variable {P : Program} {E : Env} {σ σ' : Nat → Option Value} {S V0 : St} {a : Act} {w w' : World} {bad : Nat → Prop} {key : Nat} {dst : Option Tmp}

/-- What an append takes from, in a memory. -/
structure Src (w : World) (bad : Nat → Prop) (sz m : Nat) (g : Nat → List V) (x : Value) (news : List Value) : Prop where
  is : ∃ o c, x = .slice o m c ∧ (o = none → m = 0) ∧ ∀ ad, o = some ad → ∀ (j : Nat) (u : Value), news[j]? = some u → w.cell? (ad.add j) = some u
  len : news.length = m * sz
  one : ∀ u ∈ news, u.oneCell' = true
  gl : ∀ i, i < m → (g i).length = sz
  at_ : ∀ (i j : Nat) (r : V), i < m → (g i)[j]? = some r → ∃ u, news[i * sz + j]? = some u ∧ CD w bad r u

theorem mul_lt {i j m sz : Nat} (hi : i < m) (hj : j < sz) : i * sz + j < m * sz := by
  have : (i + 1) * sz ≤ m * sz := Nat.mul_le_mul_right sz hi
  rw [Nat.add_mul] at this; omega

theorem pos_of_lt_mul {t m sz : Nat} (h : t < m * sz) : 0 < sz := by
  rcases Nat.eq_zero_or_pos sz with h0 | h0
  · subst h0; omega
  · exact h0

theorem srcOf_ok {sz m : Nat} {g : Nat → List V} {s : V} (he : srcOf V0 sz s = some (m, g)) (hs : Sub V0 S) (h : Rel E σ S a w) {x : Value} (hx : CV σ w (badOf E σ S.bx) s x) : ∃ news, Src w (badOf E σ S.bx) sz m g x news := by
  unfold srcOf at he
  split at he
  · injection he with he; injection he with h1 h2; subst h1 h2
    cases hx with
    | data hd => cases hd; exact ⟨[], ⟨⟨none, 0, rfl, fun _ => rfl, by simp⟩, by simp, by simp, by simp, by simp⟩⟩
  · injection he with he; injection he with h1 h2; subst h1 h2
    cases hx with
    | data hd => cases hd with
      | esl ad c => exact ⟨[], ⟨⟨some ad, c, rfl, by simp, by simp⟩, by simp, by simp, by simp, by simp⟩⟩
  · rename_i sz' m' g'
    split at he
    · rename_i hz
      rw [Nat.beq_eq] at hz; subst hz
      injection he with he; injection he with h1 h2; subst h1 h2
      cases hx with
      | data hd => cases hd with
        | seq o b off c u hoo hnc hl hc hd =>
          have hone : ∀ i j, i < m' → j < sz → (u i j).oneCell' = true := by
            intro i j hi hj
            have : j < (g' i).length := by rw [hl i hi]; exact hj
            exact (hd i j _ hi (List.getElem?_eq_getElem this)).oneCell
          have hdm : ∀ t, t < m' * sz → t / sz < m' ∧ t % sz < sz ∧ t / sz * sz + t % sz = t := by
            intro t ht
            have hsz : 0 < sz := pos_of_lt_mul ht
            exact ⟨Nat.div_lt_of_lt_mul (by rw [Nat.mul_comm]; exact ht), Nat.mod_lt _ hsz, by rw [Nat.mul_comm]; exact Nat.div_add_mod t sz⟩
          refine ⟨(List.range (m' * sz)).map fun t => u (t / sz) (t % sz), ⟨⟨o, c, rfl, fun hn => ?_, fun ad had t v hv => ?_⟩, by simp, fun v hv => ?_, hl, fun i j r hi hr => ?_⟩⟩
          · rcases Nat.eq_zero_or_pos m' with h0 | h0
            · exact h0
            · rw [hoo h0] at hn; cases hn
          · have ht : t < m' * sz := by simpa using (List.getElem?_eq_some_iff.1 hv).1
            obtain ⟨h1, h2, h3⟩ := hdm t ht
            have : o = some ⟨b, off, none⟩ := hoo (Nat.lt_of_le_of_lt (Nat.zero_le _) h1)
            rw [this] at had
            injection had with had; subst had
            rw [addr_add]
            have := (hc _ _ h1 h2).2
            rw [h3] at this
            rw [this, ← hv]; simp [ht]
          · simp only [List.mem_map, List.mem_range] at hv
            obtain ⟨t, ht, rfl⟩ := hv
            obtain ⟨h1, h2, _⟩ := hdm t ht
            exact hone _ _ h1 h2
          · have hj : j < sz := by rw [← hl i hi]; exact (List.getElem?_eq_some_iff.1 hr).1
            have hlt := mul_lt hi hj
            refine ⟨u i j, ?_, hd i j r hi hr⟩
            have h1 : (i * sz + j) / sz = i := by
              rw [Nat.mul_comm, Nat.mul_add_div (by omega), Nat.div_eq_of_lt hj]; omega
            have h2 : (i * sz + j) % sz = j := by rw [Nat.mul_comm, Nat.mul_add_mod, Nat.mod_eq_of_lt hj]
            simp [hlt, h1, h2]
    · cases he
  · rename_i k off m' c
    split at he
    · rename_i ty l hk
      split at he
      · rename_i hle
        simp only [Bool.and_eq_true] at hle
        obtain ⟨hle, hld⟩ := hle
        have hle := Nat.le_of_ble_eq_true hle
        injection he with he; injection he with h1 h2; subst h1 h2
        cases hx with
        | data hd => cases hd
        | row b hb =>
          obtain ⟨b', u, hσ, hl, hc, h1⟩ := (h.box k _ (hs.bx _ _ hk)).lies_cells
          rw [hb] at hσ
          injection hσ with hσ; injection hσ with hσ; injection hσ with hσ; injection hσ with hσ
          subst hσ
          refine ⟨(List.range (m' * sz)).map fun t => u (off + t), ⟨⟨_, c, rfl, by simp, fun ad had t v hv => ?_⟩, by simp, fun v hv => ?_, fun i hi => ?_, fun i j r hi hr => ?_⟩⟩
          · have ht : t < m' * sz := by simpa using (List.getElem?_eq_some_iff.1 hv).1
            injection had with had; subst had
            rw [addr_add]
            have := hl (off + t) (by omega)
            rw [Nat.zero_add] at this
            rw [this, ← hv]; simp [ht]
          · simp only [List.mem_map, List.mem_range] at hv
            obtain ⟨t, ht, rfl⟩ := hv
            exact h1 _ (by omega)
          · have := mul_lt (j := sz - 1) (sz := sz) hi
            rcases Nat.eq_zero_or_pos sz with h0 | h0
            · subst h0; simp
            · have := this (by omega); simp; omega
          · have hj : j < sz := by have := (List.getElem?_eq_some_iff.1 hr).1; simp at this; omega
            have hlt := mul_lt hi hj
            rw [List.getElem?_take, if_pos hj, List.getElem?_drop] at hr
            refine ⟨u (off + (i * sz + j)), by simp [hlt], ?_⟩
            rw [← Nat.add_assoc]
            exact (hc _ r hr).toD (allD_get hld _ r hr)
      · cases he
    · cases he
  · rename_i k
    split at he
    · rename_i ty sz' m' g' hk
      split at he
      · rename_i hz
        rw [Nat.beq_eq] at hz; subst hz
        injection he with he; injection he with h1 h2; subst h1 h2
        cases hx with
        | data hd => cases hd
        | vec v hb =>
          cases h.box k _ (hs.bx _ _ hk) with
          | vec v' xs hk' hown hl hc =>
            rw [hk'] at hb
            injection hb with hb; subst hb
            have hone : ∀ u ∈ xs, u.oneCell' = true := by
              intro u hu
              obtain ⟨t, ht⟩ := List.mem_iff_getElem?.1 hu
              have htl : t < m' * sz := by rw [← hown.1]; exact (List.getElem?_eq_some_iff.1 ht).1
              have hsz : 0 < sz := pos_of_lt_mul htl
              have h1 : t / sz < m' := Nat.div_lt_of_lt_mul (by rw [Nat.mul_comm]; exact htl)
              have h2 : t % sz < sz := Nat.mod_lt _ hsz
              have h3 : t / sz * sz + t % sz = t := by rw [Nat.mul_comm]; exact Nat.div_add_mod t sz
              obtain ⟨x, hx, h4⟩ := hc (t / sz) (t % sz) _ h1 (List.getElem?_eq_getElem (by rw [hl _ h1]; exact h2))
              rw [h3, ht] at hx
              injection hx with hx; rw [hx]; exact h4.oneCell
            refine ⟨xs, ⟨?_, hown.1, hone, hl, hc⟩⟩
            rcases hown.2 with ⟨rfl, h0⟩ | ⟨g, cap, cur, rfl, _, hg, hnc, _, hcur, htake⟩
            · subst h0
              refine ⟨none, 0, rfl, fun _ => rfl, by simp⟩
            · refine ⟨_, cap, rfl, by simp, fun ad had t v hv => ?_⟩
              injection had with had; subst had
              exact hown.cells (g := g) rfl t v hv
      · cases he
    · cases he
  · cases he

theorem run_append_src {t ty e : TypeId} {i : TypeInfo} {z : Value} {sz n m : Nat} {g : Nat → List V} {v x : Value} {xs news : List Value} (ht : P.underlying t = some (.slice e)) (hi : P.info? e = some i) (hz : i.zero = some z)
    (hsz : i.size = sz) (hzs : z.cells.size = sz) (h1 : 0 < sz) (hown : w.ownsRow 0 e sz v n xs) (hs : Src w bad sz m g x news) (hb : (n + m) * i.bytes ≤ 140737488355328) (hm : n + m ≤ maxLen) :
    ∃ v' w', (Builtin.append_ #[t, t] ty #[v, x]).run P w = .ok v' w' ∧ w'.ownsRow 0 e sz v' (n + m) (xs ++ news) ∧ w.grownBy w' v.ownBlock ∧ (v'.ownBlock = v.ownBlock ∨ v'.ownBlock = some w.heap.size) := by
  obtain ⟨o, c, rfl, ho, hc⟩ := hs.is
  cases o with
  | some ad =>
    obtain ⟨v', w', h2, h3, h4, _, h5⟩ := run_append_own_at (P := P) w 0 t ty e i z sz i.bytes ht hi hz hsz rfl hzs h1 v n xs hown ad m c news hs.len (hc ad rfl) hs.one hm hb (Nat.zero_le _)
    exact ⟨v', w', h2, h3, h4, h5⟩
  | none =>
    obtain rfl := ho rfl
    have hn : news = [] := List.eq_nil_of_length_eq_zero (by simpa using hs.len)
    subst hn
    refine ⟨v, w, ?_, by simpa using hown, World.grownBy.refl w _, .inl rfl⟩
    rcases hown.2 with ⟨rfl, rfl⟩ | ⟨g, cap, cur, rfl, _, _, hnc, _⟩
    · simp [Builtin.append_, run_underlying ht, sizeOf, typeInfo, hi, Builtin.lenOf, Builtin.firstCells]
    · simp [Builtin.append_, run_underlying ht, sizeOf, typeInfo, hi, Builtin.lenOf, Builtin.firstCells, hnc, storeCells]

theorem own_slice {e sz n : Nat} {v : Value} {xs : List Value} (h : w.ownsRow 0 e sz v n xs) : blkOf (some v) = v.ownBlock := by
  rcases h.2 with ⟨rfl, _⟩ | ⟨g, cap, cur, rfl, _⟩ <;> rfl

/-- The joined row. -/
theorem brel_join {σ1 : Nat → Option Value} {bad1 : Nat → Prop} {key e sz n m : Nat} {f g : Nat → List V} {v' x : Value} {xs news : List Value} (hk : σ1 key = some v') (hown : w'.ownsRow 0 e sz v' (n + m) (xs ++ news))
    (hxl : xs.length = n * sz) (hl : ∀ i, i < n → (f i).length = sz) (hc : ∀ (i j : Nat) (r : V), i < n → (f i)[j]? = some r → ∃ u, xs[i * sz + j]? = some u ∧ CD w bad r u) (hs : Src w bad sz m g x news)
    (hm : ∀ r u, CD w bad r u → CD w' bad1 r u) : BRel σ1 w' bad1 key (.vec e sz (n + m) (joinF n f g)) := by
  refine .vec v' (xs ++ news) hk hown (fun i hi => ?_) fun i j r hi hr => ?_
  · unfold joinF
    split
    · exact hl i (by assumption)
    · exact hs.gl _ (by omega)
  · unfold joinF at hr
    split at hr
    · rename_i hin
      obtain ⟨u, h1, h2⟩ := hc i j r hin hr
      have hlt := (List.getElem?_eq_some_iff.1 h1).1
      exact ⟨u, by rw [List.getElem?_append, if_pos hlt]; exact h1, hm _ _ h2⟩
    · rename_i hin
      obtain ⟨u, h1, h2⟩ := hs.at_ (i - n) j r (by omega) hr
      refine ⟨u, ?_, hm _ _ h2⟩
      have he : i * sz + j = n * sz + ((i - n) * sz + j) := by
        have : i = n + (i - n) := by omega
        rw [show i * sz = (n + (i - n)) * sz from by rw [← this], Nat.add_mul]; omega
      rw [List.getElem?_append, if_neg (by omega), he, hxl, Nat.add_sub_cancel_left]
      exact h1

theorem good_append {t ty : TypeId} {s x : V} {e : Eff} {obs : List Prop} (he : evAppend P V0 key t s x = some (e, obs)) (ho : AllP obs) (hs : Sub V0 S) (h : Rel E σ S a w) (ht : ∀ t, dst = some t → t < S.nt) (hf : σ key = none)
    {vs vx : Value} (hvs : CV σ w (badOf E σ S.bx) s vs) (hvx : CV σ w (badOf E σ S.bx) x vx) :
    ∃ v w', (Builtin.append_ #[t, t] ty #[vs, vx]).run P w = .ok v w' ∧ Good E σ S key a (.ok (.value v) w') dst e := by
  unfold evAppend at he
  split at he
  · rename_i el htt
    split at he
    · rename_i i sz z hi hsz hz
      obtain ⟨i', zv, hi', hzv, hzr⟩ := zeroL_ok (σ := σ) hz w (badOf E σ S.bx)
      rw [hi] at hi'
      injection hi' with hi'; subst hi'
      have hisz : i.size = sz := by simpa [szT, hi] using hsz
      split at he
      · rename_i m g hb hsrc
        simp only [Bool.and_eq_true, Nat.beq_eq] at hb
        obtain ⟨hb1, hb2⟩ := hb
        have hpos : 0 < sz := Nat.le_of_ble_eq_true hb2
        have hzs : zv.cells.size = sz := by rw [hzr.1]; exact hb1
        obtain ⟨news, hS⟩ := srcOf_ok hsrc hs h hvx
        -- the end, for a row that is owned
        have fin : ∀ (k0 n : Nat) (B0 : Box) (f : Nat → List V) (v0 : Value) (xs : List Value), aget S.bx k0 = some B0 → w.ownsRow 0 el sz v0 n xs → v0.ownBlock = blkOf (σ k0) → (∀ i, i < n → (f i).length = sz) →
            (∀ (i j : Nat) (r : V), i < n → (f i)[j]? = some r → ∃ u, xs[i * sz + j]? = some u ∧ CD w (badOf E σ S.bx) r u) →
            (n + m) * i.bytes ≤ 140737488355328 ∧ n + m ≤ maxLen →
            ∃ v w', (Builtin.append_ #[t, t] ty #[v0, vx]).run P w = .ok v w' ∧ Good E σ S key a (.ok (.value v) w') dst (.swap k0 (.vec el sz (n + m) (joinF n f g)) (.vec key)) := by
          intro k0 n B0 f v0 xs hk0 hown hblk hl hc hbd
          obtain ⟨v', w', hrun, hown', hg, hat⟩ := run_append_src (ty := ty) htt hi hzv hisz hzs hpos hown hS hbd.1 hbd.2
          refine ⟨v', w', hrun, ?_⟩
          have hsl := own_slice hown'
          have h2 := h.swap (k1 := key) (v1 := v') (B1 := .vec el sz (n + m) (joinF n f g)) hk0 hf (by rw [← hblk]; exact hg) (fun b hb => ?_) (fun hm => ?_)
          · refine ⟨_, v', w', _, rfl, .inl rfl, fresh_mono hf v', fun k hk => ?_, h2.slot ht (.vec v' (by simp))⟩
            show (if k = key then some v' else σ k) = σ k
            rw [if_neg hk]
          · rw [hsl] at hb
            refine ⟨(hown'.lt b hb).2, ?_⟩
            rcases hat with e | e
            · rw [e] at hb; exact .inr (by rw [← hblk]; exact hb)
            · rw [e] at hb; injection hb with hb; exact .inl (by omega)
          · exact brel_join (by simp) hown' hown.1 hl hc hS fun r u hu => hu.mono hm
        split at he
        · -- nil
          injection he with he; injection he with h1 h2; subst h1 h2
          cases hvs with
          | data hd =>
            cases hd
            have hbd := ho.1
            obtain ⟨v', w', hrun, hown', hg, hat⟩ := run_append_src (ty := ty) (n := 0) (xs := []) htt hi hzv hisz hzs hpos (World.ownsRow_nil w 0 el sz) hS (by simpa using hbd.1) (by simpa using hbd.2)
            have hsl := own_slice hown'
            refine ⟨v', w', hrun, Good.new (v1 := v') h ht hf hg (fun b hb => ?_) (fun hm => ?_) (.vec v' (by simp))⟩
            · rw [hsl] at hb
              rcases hat with e | e
              · rw [e] at hb; simp [Value.ownBlock] at hb
              · have := hown'.lt b hb
                rw [e] at hb; injection hb with hb; omega
            · have h3 := brel_join (w := w) (bad := badOf E σ S.bx) (σ1 := fun k => if k = key then some v' else σ k) (bad1 := badOf E (fun k => if k = key then some v' else σ k) (aput S.bx key (.vec el sz m g))) (key := key) (f := fun _ => []) (xs := []) (n := 0)
                (by simp) hown' (by simp) (by simp) (by simp) hS fun r u hu => hu.mono hm
              have hj : joinF 0 (fun _ => []) g = g := by funext i; simp [joinF]
              rw [hj, Nat.zero_add] at h3
              exact h3
        · rename_i k n c
          split at he
          · rename_i ty' l hk
            split at he
            · rename_i hb
              simp only [Bool.and_eq_true, Nat.beq_eq] at hb
              obtain ⟨⟨⟨rfl, hcl⟩, hnc⟩, hld⟩ := hb
              have hnc := Nat.le_of_ble_eq_true hnc
              injection he with he; injection he with h1 h2; subst h1 h2
              obtain ⟨hbd, hcm, _⟩ := ho
              cases h.box k _ (hs.bx _ _ hk) with
              | cells b cs hσ hh hsz' hc =>
                cases hvs with
                | data hd => cases hd
                | row b' hb' =>
                  rw [hσ] at hb'
                  injection hb' with hb'; injection hb' with hb'; injection hb' with hb'; injection hb' with hb'
                  subst hb'
                  have hnl : n * sz ≤ l.length := by rw [← hcl]; exact Nat.mul_le_mul_right sz hnc
                  refine fin k n _ (fun i => (l.drop (i * sz)).take sz) (.slice (some ⟨b, 0, none⟩) n c) (cs.toList.take (n * sz)) (hs.bx _ _ hk) ⟨by simp; omega, .inr ⟨b, c, cs, rfl, Nat.zero_le _, hh, hnc, hcm, by omega, rfl⟩⟩ (by rw [hσ]; rfl) (fun i hi => ?_) (fun i j r hi hr => ?_) hbd
                  · have := mul_lt (j := sz - 1) (sz := sz) hi (by omega)
                    simp; omega
                  · have hj : j < sz := by have := (List.getElem?_eq_some_iff.1 hr).1; simp at this; omega
                    have hlt := mul_lt hi hj
                    rw [List.getElem?_take, if_pos hj, List.getElem?_drop] at hr
                    obtain ⟨u, h1, h2, h3⟩ := hc _ r hr
                    exact ⟨u, by rw [List.getElem?_take, if_pos hlt]; simpa using h1, h2.toD (allD_get hld _ r hr)⟩
            · cases he
          · cases he
        · rename_i k
          split at he
          · rename_i ty' sz' n f hk
            split at he
            · rename_i hb
              simp only [Bool.and_eq_true, Nat.beq_eq] at hb
              obtain ⟨rfl, rfl⟩ := hb
              injection he with he; injection he with h1 h2; subst h1 h2
              have hbd := ho.1
              cases h.box k _ (hs.bx _ _ hk) with
              | vec v0 xs hσ hown hl hc =>
                cases hvs with
                | data hd => cases hd
                | vec v hb' =>
                  rw [hσ] at hb'
                  injection hb' with hb'; subst hb'
                  exact fin k n _ f v0 xs (hs.bx _ _ hk) hown (by rw [hσ, own_slice hown]) hl hc hbd
            · cases he
          · cases he
        · cases he
      · cases he
    · cases he
  · cases he

theorem madeCells_at (z : Value) (sz n : Nat) (hz : z.cells.size = sz) (i j : Nat) (hi : i < n) (hj : j < sz) : (madeCells z.cells (n * sz)).toList[i * sz + j]? = z.cells[j]? := by
  have hlt := mul_lt hi hj
  have h2 : (i * sz + j) % sz = j := by rw [Nat.mul_comm, Nat.mul_add_mod, Nat.mod_eq_of_lt hj]
  simp [madeCells, hlt, hz, h2]
  rw [getElem!_pos z.cells j (by omega), Array.getElem?_eq_getElem (by omega)]

theorem good_makeSlice {t : TypeId} {l c : Operand} {e : Eff} {obs : List Prop} (he : evMakeSlice P V0 key t l c = some (e, obs)) (ho : AllP obs) (hs : Sub V0 S) (h : Rel E σ S a w) (ht : ∀ t, dst = some t → t < S.nt) (hf : σ key = none) :
    ∃ v w', (Instr.makeSlice t (a.eval l) (a.eval c)).run P w = .ok v w' ∧ Good E σ S key a (.ok (.value v) w') dst e := by
  unfold evMakeSlice at he
  split at he
  · rename_i k1 x k2 y el hl hc htt
    split at he
    · rename_i i sz z hi hsz hz
      obtain ⟨i', zv, hi', hzv, hzr⟩ := zeroL_ok (σ := σ) hz w (badOf E σ S.bx)
      rw [hi] at hi'
      injection hi' with hi'; subst hi'
      have hisz : i.size = sz := by simpa [szT, hi] using hsz
      split at he
      · rename_i hb
        simp only [Bool.and_eq_true, Nat.beq_eq] at hb
        obtain ⟨hb, hzd⟩ := hb
        have hzs : zv.cells.size = sz := by rw [hzr.1]; exact hb
        injection he with he; injection he with h1 h2; subst h1 h2
        obtain ⟨⟨hx0, hyx⟩, ⟨hb1, hb2⟩, _⟩ := ho
        subst hyx
        have hvl := evo_ok hs h hl
        have hvc := evo_ok hs h hc
        generalize a.eval l = vl at hvl ⊢
        generalize a.eval c = vc at hvc ⊢
        cases hvl with
        | data hd => cases hd; cases hvc with
          | data hd =>
            cases hd
            obtain ⟨w', hrun, hown, hg⟩ := run_make_full (P := P) w 0 t el i zv sz htt hi hzv hisz k1 k2 y.toNat hb1 hb2 (Nat.zero_le _)
            rw [Int.toNat_of_nonneg hx0] at hrun
            refine ⟨_, w', hrun, Good.new (v1 := .slice (some ⟨w.heap.size, 0, none⟩) y.toNat y.toNat) h ht hf hg (fun b hb' => ?_) (fun hm => ?_) (.vec _ (by simp))⟩
            · simp [blkOf] at hb'
              have := hown.lt _ (show (Value.slice (some ⟨w.heap.size, 0, none⟩) y.toNat y.toNat).ownBlock = some w.heap.size from rfl)
              omega
            · refine .vec _ _ (by simp) hown (fun i _ => hb) fun i j r hi' hr => ?_
              have hj : j < sz := by rw [← hb]; exact (List.getElem?_eq_some_iff.1 hr).1
              obtain ⟨u, h1, h2, h3⟩ := hzr.2 j r hr
              exact ⟨u, by rw [madeCells_at zv sz _ hzs i j hi' hj]; exact h1, (h2.toD (allD_get hzd _ r hr)).mono hm⟩
      · cases he
    · cases he
  · cases he

theorem intMap_new (w : World) : IntMap (w.alloc (.map #[] 0)) w.heap.size 0 (fun _ => none) :=
  ⟨#[], 0, heap_alloc_new w _, rfl, by simp, by simp [intKeys], fun _ => rfl⟩

theorem good_makeMap {t : TypeId} {r : Option Operand} {e : Eff} (he : evMakeMap P key t r = some e) (h : Rel E σ S a w) (ht : ∀ t, dst = some t → t < S.nt) (hf : σ key = none) :
    ∃ v w', (Instr.makeMap t (r.map a.eval)).run P w = .ok v w' ∧ Good E σ S key a (.ok (.value v) w') dst e := by
  have fin : ∀ B, (∀ σ' bad', σ' key = some (.map (some w.heap.size)) → BRel σ' (w.alloc (.map #[] 0)) bad' key B) → Good E σ S key a (.ok (.value (.map (some w.heap.size))) (w.alloc (.map #[] 0))) dst (.new B (.map key)) := by
    intro B hB
    refine Good.new (v1 := .map (some w.heap.size)) h ht hf (World.grownBy_alloc w _ none) (fun b hb => ?_) (fun hm => hB _ _ (by simp)) (.map _ (by simp))
    simp [blkOf] at hb; subst hb; exact ⟨Nat.le_refl _, by simp⟩
  unfold evMakeMap at he
  split at he
  · cases he
  · have hrun : (Instr.makeMap t ((none : Option Operand).map a.eval)).run P w = .ok (.map (some w.heap.size)) (w.alloc (.map #[] 0)) := rfl
    split at he
    · split at he
      · injection he with he; subst he
        exact ⟨_, _, hrun, fin _ fun σ' bad' hk => .mapB _ hk (intMap_new w)⟩
      · injection he with he; subst he
        exact ⟨_, _, hrun, fin _ fun σ' bad' hk => .mapI _ hk (intMap_new w)⟩
      · injection he with he; subst he
        exact ⟨_, _, hrun, fin _ fun σ' bad' hk => .mapF _ hk (intMap_new w)⟩
      · cases he
    · cases he
end
end Go.Hb

/-
  THE SYMBOLIC LAYER, PART J: maps from int to bool or int.
-/
namespace Go.Hb
open Go.RowKit

def mapN (n : Nat) {α : Type} : Option α → Nat
  | some _ => n
  | none => n + 1

def setM {α : Type} (m : Int → Option α) (i : Int) (x : α) (j : Int) : Option α := if j = i then some x else m j

def zeroOf (P : Program) (t : TypeId) : Option Value :=
  match P.info? t with
  | some i => i.zero
  | none => none

theorem zeroOf_ok {P : Program} {t : TypeId} {z : Value} (h : zeroOf P t = some z) : ∃ i, P.info? t = some i ∧ i.zero = some z := by
  unfold zeroOf at h
  split at h
  · exact ⟨_, by assumption, h⟩
  · cases h

def fnV : Option Nat → V
  | some g => .fn g []
  | none => .nilfn

def evLookup (P : Program) (S : St) (t : TypeId) (m k : Operand) (commaOk : Bool) : Option V :=
  match commaOk, evo S.fr m, evo S.fr k, P.underlying t with
  | false, some (.map q), some (.int .i64 i), some (.map kt et) => match P.underlying kt with
    | some (.int .i64) => match aget S.bx q with
      | some (.mapB _ f) => match zeroOf P et with
        | some (.bool false) => some (.bool ((f i).getD false))
        | _ => none
      | some (.mapI _ f) => match zeroOf P et with
        | some (.int .i64 0) => some (.int .i64 ((f i).getD 0))
        | _ => none
      | some (.mapF _ f) => match zeroOf P et with
        | some .nilFunc => some (fnV (f i))
        | _ => none
      | _ => none
    | _ => none
  | _, _, _, _ => none

def evMapUpdate (P : Program) (S : St) (t : TypeId) (m k x : Operand) : Option Eff :=
  match evo S.fr m, evo S.fr k, P.underlying t with
  | some (.map q), some (.int .i64 i), some (.map kt _) => match P.underlying kt with
    | some (.int .i64) => match aget S.bx q, evo S.fr x with
      | some (.mapB n f), some s => match s.asB with
        | some b => some (.upd q (.mapB (mapN n (f i)) (setM f i b)))
        | none => none
      | some (.mapI n f), some (.int .i64 y) => some (.upd q (.mapI (mapN n (f i)) (setM f i y)))
      | some (.mapF n f), some (.fn g []) => some (.upd q (.mapF (mapN n (f i)) (setM f i g)))
      | _, _ => none
    | _ => none
  | _, _, _ => none

section
variable {P : Program} {E : Env} {σ σ' : Nat → Option Value} {S V0 : St} {a : Act} {w w' : World} {bad : Nat → Prop} {key : Nat} {dst : Option Tmp}

theorem findNow_int (kk : IntKind) (i : Int) : ∀ (l : List MapEntry) (start : Nat), (∀ e ∈ l, ∃ k, e.key = .int .i64 k) →
    ∃ r, Instr.findNow (.int kk) (.int .i64 i) l start = some r ∧ r.map (·.2) = intEntry i l ∧ ∀ j v, r = some (j, v) → start ≤ j ∧ ∃ e, l[j - start]? = some e ∧ e.key = .int .i64 i
  | [], start, _ => ⟨none, rfl, rfl, by simp⟩
  | e :: l, start, h => by
    obtain ⟨k, hk⟩ := h e (by simp)
    by_cases hik : i = k
    · subst hik
      refine ⟨some (start, e.val), by simp [Instr.findNow, Instr.sameNow, hk], by simp [intEntry, hk], fun j v hj => ?_⟩
      simp at hj
      obtain ⟨rfl, _⟩ := hj
      exact ⟨Nat.le_refl _, e, by simp, hk⟩
    · obtain ⟨r, h1, h2, h3⟩ := findNow_int kk i l (start + 1) (fun e' he' => h e' (by simp [he']))
      have hb : (i == k) = false := by simpa using hik
      refine ⟨r, by simp [Instr.findNow, Instr.sameNow, hk, hb, h1], by simp [intEntry, hk, hik, h2], fun j v hj => ?_⟩
      obtain ⟨h4, e', h5, h6⟩ := h3 j v hj
      refine ⟨by omega, e', ?_, h6⟩
      rw [show j - start = (j - (start + 1)) + 1 from by omega]
      simpa using h5

theorem run_checkKey {kt : TypeId} (hk : P.underlying kt = some (.int .i64)) (b : Bool) (i : Int) : (Instr.checkKey b 10000 kt (.int .i64 i)).run P w = .ok () w := by
  have : ∀ n, (Instr.checkKey b (n + 1) kt (.int .i64 i)).run P w = .ok () w := by
    intro n; simp [Instr.checkKey, run_underlying hk]
  exact this 9999

theorem run_getMap {r : Nat} {es : Array MapEntry} {clock : Nat} (h : w.heap[r]? = some (.map es clock)) : (getObj r).run P w = .ok (.map es clock) w := by
  simp [getObj, Sem.run, h]

theorem run_findKey {kt : TypeId} (hk : P.underlying kt = some (.int .i64)) {i : Int} {l : List MapEntry} {r : Option (Nat × Value)} (h : Instr.findNow (.int .i64) (.int .i64 i) l 0 = some r) :
    (Instr.findKey kt (.int .i64 i) l).run P w = .ok r w := by
  simp [Instr.findKey, run_underlying hk, h]

theorem run_lookup_int {t kt et : TypeId} (ht : P.underlying t = some (.map kt et)) (hk : P.underlying kt = some (.int .i64)) {r n : Nat} {val : Int → Option Value} (hm : IntMap w r n val) {i : Int}
    {inf : TypeInfo} {z : Value} (hi : P.info? et = some inf) (hz : inf.zero = some z) :
    (Instr.lookup t (.map (some r)) (.int .i64 i) false).run P w = .ok ((val i).getD z) w := by
  obtain ⟨es, clock, h1, h2, h3, h4, h5⟩ := hm
  obtain ⟨res, h6, h7, _⟩ := findNow_int .i64 i es.toList 0 h3
  rw [h5 i] at h7
  unfold Instr.lookup
  simp only [Sem.run_bind, run_underlying ht, Result.andThen_ok, run_getMap h1, Sem.run_pure, run_checkKey hk, run_findKey hk h6]
  cases res with
  | none =>
    simp at h7
    simp only [Sem.run_bind, run_zeroValue hi hz, Sem.run_pure, Result.andThen_ok]
    rw [← h7]; rfl
  | some p =>
    obtain ⟨j, v⟩ := p
    simp at h7
    rw [← h7]; rfl

theorem run_evLookup {t : TypeId} {m k : Operand} {c : Bool} {r : V} (he : evLookup P V0 t m k c = some r) (hs : Sub V0 S) (h : Rel E σ S a w) :
    ∃ v, (Instr.lookup t (a.eval m) (a.eval k) c).run P w = .ok v w ∧ CV σ w (badOf E σ S.bx) r v := by
  unfold evLookup at he
  split at he
  · rename_i q i kt et hm hk ht
    have hvm := evo_ok hs h hm
    have hvk := evo_ok hs h hk
    generalize a.eval m = vm at hvm ⊢
    generalize a.eval k = vk at hvk ⊢
    cases hvk with
    | data hd =>
      cases hd
      split at he
      · rename_i hkt
        split at he
        · rename_i n f hq
          split at he
          · rename_i hze
            injection he with he; subst he
            obtain ⟨inf, hi, hzz⟩ := zeroOf_ok hze
            cases h.box q _ (hs.bx _ _ hq) with
            | mapB r hσ hm =>
              cases hvm with
              | data hd => cases hd
              | map r' hb =>
                rw [hσ] at hb
                injection hb with hb; injection hb with hb; injection hb with hb; subst hb
                refine ⟨_, run_lookup_int ht hkt hm hi hzz, ?_⟩
                cases f i <;> exact .data .bool
          · cases he
        · rename_i n f hq
          split at he
          · rename_i hze
            injection he with he; subst he
            obtain ⟨inf, hi, hzz⟩ := zeroOf_ok hze
            cases h.box q _ (hs.bx _ _ hq) with
            | mapI r hσ hm =>
              cases hvm with
              | data hd => cases hd
              | map r' hb =>
                rw [hσ] at hb
                injection hb with hb; injection hb with hb; injection hb with hb; subst hb
                refine ⟨_, run_lookup_int ht hkt hm hi hzz, ?_⟩
                cases f i <;> exact .data .int
          · cases he
        · rename_i n f hq
          split at he
          · rename_i hze
            injection he with he; subst he
            obtain ⟨inf, hi, hzz⟩ := zeroOf_ok hze
            cases h.box q _ (hs.bx _ _ hq) with
            | mapF r hσ hm =>
              cases hvm with
              | data hd => cases hd
              | map r' hb =>
                rw [hσ] at hb
                injection hb with hb; injection hb with hb; injection hb with hb; subst hb
                refine ⟨_, run_lookup_int ht hkt hm hi hzz, ?_⟩
                cases f i with
                | none => exact .data .nilfn
                | some g => exact .fn #[] (fun _ => .bool false) rfl (fun j hj => absurd hj (Nat.not_lt_zero j)) (fun j s hj => by simp at hj)
          · cases he
        · cases he
      · cases he
  · cases he

theorem intEntry_modify (i : Int) (x : Value) : ∀ (l : List MapEntry) (j : Nat) (e : MapEntry), l[j]? = some e → e.key = .int .i64 i → (intKeys l).Nodup → (∀ e ∈ l, ∃ k, e.key = .int .i64 k) →
    ∀ k, intEntry k (l.modify j fun e => { e with key := .int .i64 i, val := x }) = if k = i then some x else intEntry k l
  | [], j, e, h, _, _, _ => by simp at h
  | e0 :: l, 0, e, h, he, hn, hk => by
    simp at h; subst h
    intro k
    simp only [List.modify_zero_cons, intEntry, he]
    by_cases hki : k = i
    · simp [hki]
    · simp [hki]
  | e0 :: l, j + 1, e, h, he, hn, hk => by
    intro k
    obtain ⟨k0, hk0⟩ := hk e0 (by simp)
    simp only [List.getElem?_cons_succ] at h
    simp only [intKeys, hk0, List.nodup_cons] at hn
    have ih := intEntry_modify i x l j e h he hn.2 (fun e he => hk e (by simp [he])) k
    simp only [List.modify_succ_cons, intEntry, hk0, ih]
    have hne : k0 ≠ i := by
      rintro rfl
      apply hn.1
      clear ih
      have : ∀ (l : List MapEntry) (j : Nat), l[j]? = some e → k0 ∈ intKeys l := by
        intro l
        induction l with
        | nil => intro j h; simp at h
        | cons e1 l ihl =>
          intro j h
          cases j with
          | zero => simp at h; subst h; simp [intKeys, he]
          | succ j => simp at h; simp [intKeys, ihl j h]
      exact this l j h
    by_cases hki : k = i
    · subst hki
      rw [if_pos rfl, if_neg (fun e => hne e.symm), if_pos rfl]
    · rw [if_neg hki, if_neg hki]

theorem intKeys_modify (i : Int) (x : Value) : ∀ (l : List MapEntry) (j : Nat) (e : MapEntry), l[j]? = some e → e.key = .int .i64 i → intKeys (l.modify j fun e => { e with key := .int .i64 i, val := x }) = intKeys l
  | [], j, e, h, _ => by simp at h
  | e0 :: l, 0, e, h, he => by simp at h; subst h; simp [intKeys, he]
  | e0 :: l, j + 1, e, h, he => by
    simp only [List.getElem?_cons_succ] at h
    simp [intKeys, intKeys_modify i x l j e h he]

theorem intEntry_push (i : Int) (x : Value) (b : Nat) : ∀ (l : List MapEntry), intEntry i l = none → (∀ e ∈ l, ∃ k, e.key = .int .i64 k) → ∀ k, intEntry k (l ++ [{ key := .int .i64 i, val := x, born := b }]) = if k = i then some x else intEntry k l
  | [], _, _ => by
    intro k; by_cases h : k = i <;> simp [intEntry, h]
  | e0 :: l, hn, hk => by
    intro k
    obtain ⟨k0, hk0⟩ := hk e0 (by simp)
    simp only [intEntry, hk0] at hn
    split at hn
    · simp at hn
    · rename_i hne
      have ih := intEntry_push i x b l hn (fun e he => hk e (by simp [he])) k
      simp only [List.cons_append, intEntry, hk0, ih]
      by_cases hki : k = i
      · subst hki; simp [hne]
      · simp [hki]

theorem intKeys_append : ∀ (l m : List MapEntry), intKeys (l ++ m) = intKeys l ++ intKeys m
  | [], m => rfl
  | e :: l, m => by simp [intKeys, intKeys_append l m]

theorem not_mem_keys (i : Int) : ∀ (l : List MapEntry), intEntry i l = none → (∀ e ∈ l, ∃ k, e.key = .int .i64 k) → i ∉ intKeys l
  | [], _, _ => by simp [intKeys]
  | e :: l, h, hk => by
    obtain ⟨k0, hk0⟩ := hk e (by simp)
    simp only [intEntry, hk0] at h
    split at h
    · simp at h
    · rename_i hne
      simp only [intKeys, hk0, List.mem_cons, not_or]
      exact ⟨hne, not_mem_keys i l h (fun e he => hk e (by simp [he]))⟩

theorem run_mapUpdate_int {t kt et : TypeId} (ht : P.underlying t = some (.map kt et)) (hk : P.underlying kt = some (.int .i64)) {r n : Nat} {val : Int → Option Value} (hm : IntMap w r n val) (i : Int) (x : Value) :
    ∃ w', (Instr.mapUpdate t (.map (some r)) (.int .i64 i) x).run P w = .ok () w' ∧ w.grownBy w' (some r) ∧ IntMap w' r (mapN n (val i)) (setM val i x) := by
  obtain ⟨es, clock, h1, h2, h3, h4, h5⟩ := hm
  obtain ⟨res, h6, h7, h8⟩ := findNow_int .i64 i es.toList 0 h3
  rw [h5 i] at h7
  have hlt : r < w.heap.size := (Array.getElem?_eq_some_iff.1 h1).1
  have hset : ∀ o, (setObj r o).run P w = .ok () { w with heap := w.heap.setIfInBounds r o } := by
    intro o; simp [setObj, Sem.run, h1]
  have hg : ∀ o, w.grownBy { w with heap := w.heap.setIfInBounds r o } (some r) := fun o =>
    ⟨rfl, rfl, rfl, by simp, fun k _ hk => by simp only [Array.getElem?_setIfInBounds]; rw [if_neg (fun e => hk (by rw [e]))]⟩
  have hat : ∀ o, ({ w with heap := w.heap.setIfInBounds r o } : World).heap[r]? = some o := fun o => by simp [hlt]
  unfold Instr.mapUpdate
  simp only [Sem.run_bind, run_underlying ht, Result.andThen_ok, run_getMap h1, run_checkKey hk, run_findKey hk h6]
  cases res with
  | none =>
    simp at h7
    refine ⟨_, hset _, hg _, ⟨_, _, hat _, ?_, ?_, ?_, ?_⟩⟩
    · rw [← h7]; simp [mapN, h2]
    · intro e he
      simp only [Array.toList_push, List.mem_append, List.mem_singleton] at he
      rcases he with he | rfl
      · exact h3 e he
      · exact ⟨i, rfl⟩
    · rw [Array.toList_push, intKeys_append]
      simp only [intKeys]
      rw [List.nodup_append]
      refine ⟨h4, by simp, ?_⟩
      intro a ha b hb
      simp at hb; subst hb
      rintro rfl
      exact not_mem_keys a es.toList (by rw [h5]; exact h7.symm) h3 ha
    · intro k
      rw [Array.toList_push, intEntry_push i x clock es.toList (by rw [h5]; exact h7.symm) h3 k]
      unfold setM; rw [h5]
  | some p =>
    obtain ⟨j, v⟩ := p
    simp at h7
    obtain ⟨_, e, he, hek⟩ := h8 j v rfl
    rw [Nat.sub_zero] at he
    have he' : es[j]? = some e := by simpa using he
    have hkeep : (Instr.keyThatStays (((es[j]?).map (·.key)).getD (.int .i64 i)) (.int .i64 i)).run P w = .ok (.int .i64 i) w := by
      simp [Instr.keyThatStays, he', hek, Instr.sameBits]
    simp only [Sem.run_bind, hkeep, Result.andThen_ok]
    refine ⟨_, hset _, hg _, ⟨_, _, hat _, ?_, ?_, ?_, ?_⟩⟩
    · rw [← h7]; simp [mapN, h2]
    · intro e' he'
      rw [Array.toList_modify] at he'
      obtain ⟨q, hq⟩ := List.mem_iff_getElem?.1 he'
      rw [List.getElem?_modify] at hq
      cases hqq : es.toList[q]? with
      | none => rw [hqq] at hq; simp at hq
      | some e0 =>
        rw [hqq] at hq
        by_cases hjq : j = q
        · simp [hjq] at hq; exact ⟨i, by rw [← hq]⟩
        · simp [hjq] at hq; rw [← hq]; exact h3 e0 (List.mem_of_getElem? hqq)
    · rw [Array.toList_modify, intKeys_modify i x es.toList j e he hek]; exact h4
    · intro k
      rw [Array.toList_modify, intEntry_modify i x es.toList j e he hek h4 h3 k]
      unfold setM; rw [h5]

theorem mapN_map {α β : Type} (n : Nat) (o : Option α) (g : α → β) : mapN n (o.map g) = mapN n o := by cases o <;> rfl
theorem setM_map {α β : Type} (m : Int → Option α) (i : Int) (x : α) (g : α → β) : setM (fun j => (m j).map g) i (g x) = fun j => (setM m i x j).map g := by
  funext j; unfold setM; split <;> rfl

theorem good_mapUpdate {t : TypeId} {m k x : Operand} {e : Eff} (he : evMapUpdate P V0 t m k x = some e) (hs : Sub V0 S) (h : Rel E σ S a w) (ht : ∀ t, dst = some t → t < S.nt) :
    ∃ w', (Instr.mapUpdate t (a.eval m) (a.eval k) (a.eval x)).run P w = .ok () w' ∧ Good E σ S key a (.ok .skip w') dst e := by
  unfold evMapUpdate at he
  split at he
  · rename_i q i kt et hm hk htt
    have hvm := evo_ok hs h hm
    have hvk := evo_ok hs h hk
    generalize a.eval m = vm at hvm ⊢
    generalize a.eval k = vk at hvk ⊢
    cases hvk with
    | data hd =>
      cases hd
      split at he
      · rename_i hkt
        split at he
        · rename_i n f s hq hx
          split at he
          · rename_i b hb
            injection he with he; subst he
            have hvx := asB_ok hb (evo_ok hs h hx)
            rw [hvx]
            cases h.box q _ (hs.bx _ _ hq) with
            | mapB r hσ hmm =>
              cases hvm with
              | data hd => cases hd
              | map r' hb' =>
                rw [hσ] at hb'
                injection hb' with hb'; injection hb' with hb'; injection hb' with hb'; subst hb'
                obtain ⟨w', hrun, hg, hm'⟩ := run_mapUpdate_int htt hkt hmm i (.bool b)
                refine ⟨w', hrun, Good.upd h ht (hs.bx _ _ hq) (b0 := r) (by rw [hσ]; rfl) hg fun _ => .mapB r hσ ?_⟩
                rw [mapN_map, setM_map f i b Value.bool] at hm'
                exact hm'
          · cases he
        · rename_i n f y hq hx
          injection he with he; subst he
          have hvx := evo_ok hs h hx
          generalize a.eval x = vx at hvx ⊢
          cases hvx with
          | data hd =>
            cases hd
            cases h.box q _ (hs.bx _ _ hq) with
            | mapI r hσ hmm =>
              cases hvm with
              | data hd => cases hd
              | map r' hb' =>
                rw [hσ] at hb'
                injection hb' with hb'; injection hb' with hb'; injection hb' with hb'; subst hb'
                obtain ⟨w', hrun, hg, hm'⟩ := run_mapUpdate_int htt hkt hmm i (.int .i64 y)
                refine ⟨w', hrun, Good.upd h ht (hs.bx _ _ hq) (b0 := r) (by rw [hσ]; rfl) hg fun _ => .mapI r hσ ?_⟩
                rw [mapN_map, setM_map f i y (Value.int .i64)] at hm'
                exact hm'
        · rename_i n f g hq hx
          injection he with he; subst he
          have hvx := evo_ok hs h hx
          have hvx' : a.eval x = .func (.func g) #[] #[] := by
            generalize a.eval x = vx at hvx
            have key : ∀ vs : Array Value, vs.size = 0 → Value.func (.func g) #[] vs = .func (.func g) #[] #[] := fun vs hvs => by rw [Array.size_eq_zero_iff.1 hvs]
            cases hvx with
            | data hd => cases hd with | fn vs u hvs _ _ => exact key vs hvs
            | fn vs u hvs _ _ => exact key vs hvs
          rw [hvx']
          cases h.box q _ (hs.bx _ _ hq) with
          | mapF r hσ hmm =>
            cases hvm with
            | data hd => cases hd
            | map r' hb' =>
              rw [hσ] at hb'
              injection hb' with hb'; injection hb' with hb'; injection hb' with hb'; subst hb'
              obtain ⟨w', hrun, hg, hm'⟩ := run_mapUpdate_int htt hkt hmm i (.func (.func g) #[] #[])
              refine ⟨w', hrun, Good.upd h ht (hs.bx _ _ hq) (b0 := r) (by rw [hσ]; rfl) hg fun _ => .mapF r hσ ?_⟩
              rw [mapN_map, setM_map f i g fun g => Value.func (.func g) #[] #[]] at hm'
              exact hm'
        · cases he
      · cases he
  · cases he
end
end Go.Hb

/-
  THE SYMBOLIC LAYER, PART K: one operation ('exec1'), calls by contract ('Spec'), the operations of a region in the order of the text.
-/
namespace Go.Hb
open Go.RowKit

/-- A call of f enters f. -/
def Enters (P : Program) (f : FuncId) : Prop := ∀ (args : Array Value) (w : World), (callFunc f args).run P w = .ok (.enter f args) w

theorem enters_of {P : Program} {f : FuncId} {fn : Func} {c : Code} (hf : P.funcs[f]? = some fn) (hname : (fn.name == "runtime.NumGoroutine") = false) (hb : fn.body = some c) : Enters P f := by
  intro args w
  have h1 : fn.name ≠ "runtime.NumGoroutine" := by simpa using hname
  simp [callFunc, hf, h1, hb, mark]

/-- A call's contract: with these arguments, and m boxes of the caller's (keys 0 .. m-1), it hands back 'res' and leaves the boxes 'bx1'. -/
def Spec (P : Program) (f : FuncId) (m : Nat) (args : List V) (bx : List (Nat × Box)) (res : V) (bx1 : List (Nat × Box)) : Prop :=
  Enters P f ∧ ∀ (E : Env) (σ : Nat → Option Value) (vals : Array Value), Mem E σ bx E.w0 → (∀ k, m ≤ k → σ k = none) → vals.size = args.length →
    (∀ (j : Nat) (s : V), args[j]? = some s → ∃ v, vals[j]? = some v ∧ CV σ E.w0 (badOf E σ bx) s v) →
    Calls P f vals E.w0 fun e w' => ∃ v σ', e = .returned v ∧ (∀ k, k < m → σ' k = σ k) ∧ CV σ' w' (badOf E σ' bx1) res v ∧ Mem E σ' bx1 w'

/-- The plain contract: data in, data out. -/
abbrev SpecD (P : Program) (f : FuncId) (args : List V) (res : V) : Prop := Spec P f 0 args [] res []

/-- Data in; out comes a row of the call's own. -/
abbrev SpecV (P : Program) (f : FuncId) (args : List V) (ty sz n : Nat) (g : Nat → List V) : Prop := Spec P f 0 args [] (.vec 0) [(0, .vec ty sz n g)]

def V.isK : V → Bool
  | .ptr _ _ | .row _ _ _ _ | .vec _ | .vptr _ _ _ _ | .map _ | .tail _ _ _ => true
  | _ => false

mutual
/-- Each key of a value by 'φ'. -/
def V.mapK (φ : V → V) : V → V
  | .agg l => .agg (V.mapL φ l)
  | .tup l => .tup (V.mapL φ l)
  | .fn f l => .fn f (V.mapL φ l)
  | .ptr k off => φ (.ptr k off)
  | .row k off len cap => φ (.row k off len cap)
  | .vec k => φ (.vec k)
  | .vptr k sz i off => φ (.vptr k sz i off)
  | .map k => φ (.map k)
  | .tail k sz lo => φ (.tail k sz lo)
  | s => s
def V.mapL (φ : V → V) : List V → List V
  | [] => []
  | s :: l => V.mapK φ s :: V.mapL φ l
end

theorem mapL_get (φ : V → V) : ∀ (l : List V), (V.mapL φ l).length = l.length ∧ ∀ (j : Nat) (s : V), (V.mapL φ l)[j]? = some s → ∃ s0, l[j]? = some s0 ∧ s = V.mapK φ s0
  | [] => by simp [V.mapL]
  | x :: l => by
    obtain ⟨h1, h2⟩ := mapL_get φ l
    refine ⟨by simp [V.mapL, h1], fun j s hj => ?_⟩
    cases j with
    | zero => simp [V.mapL] at hj; subst hj; exact ⟨x, rfl, rfl⟩
    | succ j => simpa using h2 j s (by simpa [V.mapL] using hj)

def mapFr (φ : V → V) : List (Nat × V) → List (Nat × V)
  | [] => []
  | (t, s) :: l => (t, V.mapK φ s) :: mapFr φ l
def Box.mapK (φ : V → V) : Box → Box
  | .cells ty l => .cells ty (V.mapL φ l)
  | B => B
def mapBx (φ : V → V) : List (Nat × Box) → List (Nat × Box)
  | [] => []
  | (q, B) :: l => (q, Box.mapK φ B) :: mapBx φ l

theorem mapFr_get (φ : V → V) : ∀ (l : List (Nat × V)) (t : Nat) (s : V), aget (mapFr φ l) t = some s → ∃ s0, aget l t = some s0 ∧ s = V.mapK φ s0
  | [], t, s, h => by simp [mapFr, aget] at h
  | (u, x) :: l, t, s, h => by
    simp only [mapFr, aget] at h ⊢
    split at h
    · injection h with h
      exact ⟨x, rfl, h.symm⟩
    · exact mapFr_get φ l t s h
theorem mapBx_get (φ : V → V) : ∀ (l : List (Nat × Box)) (t : Nat) (s : Box), aget (mapBx φ l) t = some s → ∃ s0, aget l t = some s0 ∧ s = Box.mapK φ s0
  | [], t, s, h => by simp [mapBx, aget] at h
  | (u, x) :: l, t, s, h => by
    simp only [mapBx, aget] at h ⊢
    split at h
    · injection h with h
      exact ⟨x, rfl, h.symm⟩
    · exact mapBx_get φ l t s h

section
variable {σ σ' : Nat → Option Value} {w : World} {bad bad' : Nat → Prop}

theorem CD.mapK {φ : V → V} (hb : ∀ b, b < w.heap.size → ¬ bad b → ¬ bad' b ∧ w.heap[b]? = w.heap[b]?) {s : V} {v : Value} (h : CD w bad s v) : CD w bad' (V.mapK φ s) v := by
  induction h with
  | @fn f l vs u hs hv _ ih =>
    simp only [V.mapK]
    obtain ⟨h1, h2⟩ := mapL_get φ l
    refine .fn vs u (by rw [h1]; exact hs) (fun j hj => hv j (by rw [← h1]; exact hj)) fun j s hj => ?_
    obtain ⟨s0, h3, rfl⟩ := h2 j s hj
    exact ih j s0 h3
  | int => exact .int
  | bool => exact .bool
  | tt => exact .tt
  | str => exact .str
  | seq o b off c u ho hnc hl hc hd hz _ => exact (CD.seq o b off c u ho hnc hl hc hd hz).mono hb
  | rfp b o u hc hd _ => exact (CD.rfp b o u hc hd).mono hb
  | nilfn => exact .nilfn
  | nilsl => exact .nilsl
  | esl a c => exact .esl a c
  | nilp => exact .nilp
  | nilmap => exact .nilmap

theorem CV.mapK {φ : V → V} (hb : ∀ b, b < w.heap.size → ¬ bad b → ¬ bad' b ∧ w.heap[b]? = w.heap[b]?) (hφ : ∀ s v, V.isK s = true → CV σ w bad s v → CV σ' w bad' (φ s) v)
    {s : V} {v : Value} (h : CV σ w bad s v) : CV σ' w bad' (V.mapK φ s) v := by
  induction h with
  | junk => exact .junk
  | @data s v h => exact .data (h.mapK hb)
  | @agg l vs u hs hv h1 _ ih =>
    simp only [V.mapK]
    obtain ⟨g1, g2⟩ := mapL_get φ l
    refine .agg vs u (by rw [g1]; exact hs) (fun j hj => hv j (by rw [← g1]; exact hj)) (fun j hj => h1 j (by rw [← g1]; exact hj)) fun j s hj => ?_
    obtain ⟨s0, h3, rfl⟩ := g2 j s hj
    exact ih j s0 h3
  | @tup l vs u hs hv _ ih =>
    simp only [V.mapK]
    obtain ⟨g1, g2⟩ := mapL_get φ l
    refine .tup vs u (by rw [g1]; exact hs) (fun j hj => hv j (by rw [← g1]; exact hj)) fun j s hj => ?_
    obtain ⟨s0, h3, rfl⟩ := g2 j s hj
    exact ih j s0 h3
  | @fn f l vs u hs hv _ ih =>
    simp only [V.mapK]
    obtain ⟨g1, g2⟩ := mapL_get φ l
    refine .fn vs u (by rw [g1]; exact hs) (fun j hj => hv j (by rw [← g1]; exact hj)) fun j s hj => ?_
    obtain ⟨s0, h3, rfl⟩ := g2 j s hj
    exact ih j s0 h3
  | ptr b h => exact hφ _ _ rfl (.ptr b h)
  | row b h => exact hφ _ _ rfl (.row b h)
  | vec v h => exact hφ _ _ rfl (.vec v h)
  | vptr b n c h => exact hφ _ _ rfl (.vptr b n c h)
  | elp b o c h hi => exact .elp b o c (h.mono hb) hi
  | map r h => exact hφ _ _ rfl (.map r h)
  | tail b n c h hlo => exact hφ _ _ rfl (.tail b n c h hlo)

theorem BRel.mapK {φ : V → V} {k k' : Nat} {B : Box} (hk : σ' k' = σ k) (hb : ∀ b, b < w.heap.size → ¬ bad b → ¬ bad' b ∧ w.heap[b]? = w.heap[b]?) (hφ : ∀ s v, V.isK s = true → CV σ w bad s v → CV σ' w bad' (φ s) v) (h : BRel σ w bad k B) : BRel σ' w bad' k' (Box.mapK φ B) := by
  cases h with
  | @cells ty l b cs h1 hh hs hc =>
    obtain ⟨g1, g2⟩ := mapL_get φ l
    refine .cells b cs (by rw [hk]; exact h1) hh (by rw [g1]; exact hs) fun j s hj => ?_
    obtain ⟨s0, h3, rfl⟩ := g2 j s hj
    obtain ⟨v, h4, h5, h6⟩ := hc j s0 h3
    exact ⟨v, h4, h5.mapK hb hφ, h6⟩
  | vec v xs h1 ho hl hc => exact .vec v xs (by rw [hk]; exact h1) ho hl fun i j s hi hj => by obtain ⟨x, h2, h3⟩ := hc i j s hi hj; exact ⟨x, h2, h3.mono hb⟩
  | mapB r h1 h => exact .mapB r (by rw [hk]; exact h1) h
  | mapI r h1 h => exact .mapI r (by rw [hk]; exact h1) h
  | mapF r h1 h => exact .mapF r (by rw [hk]; exact h1) h
end

/-- What a script says of a call besides: 'Ans.val r': data; 'Ans.val (.vec 0)' with a row: by 'AnsV'. -/
inductive An where
  | no
  | dec (b : Bool)
  | val (s : V)
  | vdec (s : V) (b : Bool)
  | row (ty sz n : Nat) (g : Nat → List V)
  | mapr (n : Nat) (f : Int → Option Bool) (s : V)
  | own (K : List Nat) (bs : List (Nat × Box)) (s : V)

/-- A told value that is decided besides. -/
def An.base : An → An
  | .vdec s _ => .val s
  | a => a
def An.decB : An → Option Bool
  | .dec b => some b
  | .vdec _ b => some b
  | _ => none

def An.toAns : An → Ans
  | .val s => .val s
  | .dec b => .dec b
  | _ => .no

/-- An own map handed over, as the callee's box 0. -/
def mapArg : List V → Option (Nat × List V)
  | [] => none
  | .map q :: l => match V.ltL 0 l with
    | true => some (q, .map 0 :: l)
    | false => none
  | s :: l => match V.ltB 0 s with
    | true => match mapArg l with
      | some (q, l') => some (q, s :: l')
      | none => none
    | false => none

/-- Boxes handed over: the callee's keys are their places in 'K'; what it makes has other keys. -/
def idxK : List Nat → Nat → Nat → Option Nat
  | [], _, _ => none
  | q :: l, i, k => match Nat.beq q k with
    | true => some i
    | false => idxK l (i + 1) k
def toK (K : List Nat) : V → V
  | .ptr k off => match idxK K 0 k with | some i => .ptr i off | none => .junk
  | .row k off len cap => match idxK K 0 k with | some i => .row i off len cap | none => .junk
  | .vec k => match idxK K 0 k with | some i => .vec i | none => .junk
  | .vptr k sz e off => match idxK K 0 k with | some i => .vptr i sz e off | none => .junk
  | .map k => match idxK K 0 k with | some i => .map i | none => .junk
  | .tail k sz lo => match idxK K 0 k with | some i => .tail i sz lo | none => .junk
  | _ => .junk
def keyK (K : List Nat) (key i : Nat) : Nat := match K[i]? with | some k => k | none => key + (i - K.length) * 1000000
def fromK (K : List Nat) (key : Nat) : V → V
  | .ptr i off => .ptr (keyK K key i) off
  | .row i off len cap => .row (keyK K key i) off len cap
  | .vec i => .vec (keyK K key i)
  | .vptr i sz e off => .vptr (keyK K key i) sz e off
  | .map i => .map (keyK K key i)
  | .tail i sz lo => .tail (keyK K key i) sz lo
  | s => s
def selK (bx : List (Nat × Box)) (φ : V → V) : Nat → List Nat → Option (List (Nat × Box))
  | _, [] => some []
  | i, k :: l => match aget bx k, selK bx φ (i + 1) l with
    | some B, some r => some ((i, Box.mapK φ B) :: r)
    | _, _ => none
def mapOwn (K : List Nat) (key : Nat) : List (Nat × Box) → List (Nat × Box)
  | [] => []
  | (i, B) :: l => (keyK K key i, Box.mapK (fromK K key) B) :: mapOwn K key l
def nodupN : List Nat → Bool
  | [] => true
  | k :: l => (match idxK l 0 k with | some _ => false | none => true) && nodupN l
def evOwn (P : Program) (S : St) (key : Nat) (g : FuncId) (as : List V) (K : List Nat) (bs : List (Nat × Box)) (r : V) : Option (Eff × List Prop) :=
  match nodupN K, selK S.bx (toK K) 0 K with
  | true, some bxc => some (.own K (mapOwn K key bs) (V.mapK (fromK K key) r), [Spec P g K.length (V.mapL (toK K) as) bxc r bs])
  | _, _ => none

def evCall (P : Program) (S : St) (key : Nat) (f : V) (args : List V) (ans : An) : Option (Eff × List Prop) :=
  match f with
  | .fn g caps => match ans with
   | .own K bs r => evOwn P S key g (args ++ caps) K bs r
   | ans => match V.ltL 0 (args ++ caps) with
    | true => match ans with
      | .val r => match V.ltB 0 r with
        | true => some (.val r, [SpecD P g (args ++ caps) r])
        | false => none
      | .row ty sz n h => some (.new (.vec ty sz n h) (.vec key), [SpecV P g (args ++ caps) ty sz n h])
      | _ => none
    | false => match ans with
      | .mapr n h r => match mapArg (args ++ caps) with
        | some (q, args') => match aget S.bx q, V.ltB 0 r with
          | some (.mapB n0 h0), true => some (.upv q (.mapB n h) r, [Spec P g 1 args' [(0, .mapB n0 h0)] r [(0, .mapB n h)]])
          | _, _ => none
        | none => none
      | _ => none
  | _ => none

def bytesOf (ns : List Int) : ByteArray := ns.foldl (fun r n => r.push (UInt8.ofNat n.toNat)) ByteArray.empty
def u8s : List V → Option (List Int)
  | [] => some []
  | .int .u8 x :: l => match u8s l with
    | some r => some (x :: r)
    | none => none
  | _ => none
def u8At : List V → Int
  | [.int .u8 x] => x
  | _ => 0

/-- A row of bytes as a text. -/
def evBytes (P : Program) (S : St) (src dst : TypeId) (x : Operand) : Option (V × List Prop) :=
  match P.underlying src, P.underlying dst with
  | some (.slice e), some .string => match P.underlying e, evo S.fr x with
    | some (.int .u8), some (.row k off len _) => match aget S.bx k with
      | some (.cells _ l) => match u8s ((l.drop off).take len) with
        | some ns => match Nat.beq ns.length len with
          | true => some (.str (bytesOf ns), [])
          | false => none
        | none => none
      | _ => none
    | some (.int .u8), some (.seq 1 n f) => some (.str (bytesOf ((List.range n).map fun i => u8At (f i))), [0 < n, ∀ i, i < n → f i = [.int .u8 (u8At (f i))]])
    | _, _ => none
  | _, _ => none

/-- The head of an own row: the row goes on under a new key. -/
def evHead (P : Program) (S : St) (key : Nat) (t : TypeId) (x : Operand) (lo hi mx : Option Operand) : Option (Eff × List Prop) :=
  match lo, hi, mx with
  | none, some y, none => match evo S.fr x, evo S.fr y, P.underlying t with
    | some (.vec k), some (.int .i64 h), some (.slice e) => match aget S.bx k, szT P e with
      | some (.vec ty sz n f), some sz' => match Nat.beq sz sz' with
        | true => some (.swap k (.vec ty sz h.toNat f) (.vec key), [0 ≤ h, h ≤ (n : Int), 0 < n])
        | false => none
      | _, _ => none
    | _, _, _ => none
  | _, _, _ => none
/-- An own row's tail laid with noughts. -/
def evClear (P : Program) (S : St) (t : TypeId) (x : Operand) : Option (Eff × List Prop) :=
  match evo S.fr x, P.underlying t with
  | some (.tail k sz lo), some (.slice e) => match aget S.bx k, zeroL P e with
    | some (.vec ty sz' n f), some z => match Nat.beq sz sz' && Nat.beq z.length sz && allD z with
      | true => some (.upd k (.vec ty sz n fun i => match Nat.blt i lo with | true => f i | false => z), [])
      | false => none
    | _, _ => none
  | _, _ => none

def exec0 (P : Program) (key : Nat) (ans : An) (op : Op) (S : St) : Option (Eff × List Prop) :=
  match op with
  | .alloc t => match evAlloc P key t with
    | some e => some (e, [])
    | none => none
  | .box t x => match evBox S key t x with
    | some e => some (e, [])
    | none => none
  | .build t ps => match evBuild P S t ps with
    | some s => some (.val s, [])
    | none => none
  | .buildSlice t n ps => match evBuildSlice P S key t n ps with
    | some e => some (e, [])
    | none => none
  | .store t x v => evStore P S t x v ans.toAns
  | .makeSlice t l c => evMakeSlice P S key t l c
  | .makeMap t r => match evMakeMap P key t r with
    | some e => some (e, [])
    | none => none
  | .lookup t m k c => match evLookup P S t m k c with
    | some s => match ans with
      | .val r => some (.val r, [s = r])
      | _ => some (.val s, [])
    | none => none
  | .mapUpdate t m k x => match evMapUpdate P S t m k x with
    | some e => some (e, [])
    | none => none
  | .insert t m k x => match evMapUpdate P S t m k x with
    | some e => some (e, [])
    | none => none
  | .convert src dst x => match evBytes P S src dst x with
    | some (s, obs) => some (.val s, obs)
    | none => match evR P S (.convert src dst x) ans.toAns with
      | some (s, obs) => some (.val s, obs)
      | none => none
  | .call c => match c.callee with
    | .value f => match evo S.fr f, evList S.fr c.args.toList with
      | some f, some args => evCall P S key f args ans
      | _, _ => none
    | .builtin .append => match c.args.toList, c.argTypes.toList with
      | [x, y], [t, t'] => match Nat.beq t t', evo S.fr x, evo S.fr y with
        | true, some s, some r => evAppend P S key t s r
        | _, _, _ => none
      | _, _ => none
    | .builtin .clear => match c.args.toList, c.argTypes.toList with
      | [x], [t] => evClear P S t x
      | _, _ => none
    | .builtin _ => match evR P S (.call c) ans.toAns with
      | some (s, obs) => some (.val s, obs)
      | none => none
    | _ => none
  | .slice t x lo hi mx => match evHead P S key t x lo hi mx with
    | some r => some r
    | none => match evR P S (.slice t x lo hi mx) ans.toAns with
      | some (s, obs) => some (.val s, obs)
      | none => none
  | op => match evR P S op ans.toAns with
    | some (s, obs) => some (.val s, obs)
    | none => none

/-- One operation; where the script decides a bool, the fact is owed. -/
def exec1 (P : Program) (key : Nat) (ans : An) (op : Op) (S : St) : Option (Eff × List Prop) :=
  match exec0 P key ans.base op S with
  | some (.val (.bool b), obs) => match ans.decB with
    | some β => some (.val (.tt β), (b = β) :: obs)
    | none => some (.val (.bool b), obs)
  | r => r

section
variable {P : Program} {E : Env} {σ σ' : Nat → Option Value} {S V0 : St} {a : Act} {w w' : World} {bad : Nat → Prop} {key : Nat} {dst : Option Tmp}

theorem evMove_ok {x : Operand} {r : V} {obs : List Prop} (h : (match evo V0.fr x with | some s => some (s, ([] : List Prop)) | none => some (V.junk, [])) = some (r, obs)) (hs : Sub V0 S) (hr : Rel E σ S a w) :
    CV σ w (badOf E σ S.bx) r (a.eval x) := by
  split at h
  · rename_i s hx
    injection h with h; injection h with h1 h2; subst h1
    exact evo_ok hs hr hx
  · injection h with h; injection h with h1 h2; subst h1
    exact .junk

theorem sure_run {s : V} (h : s.sure = true) {v : Value} (hv : CV σ w bad s v) : (match v with
    | .pointer none | .nilIface | .nilFunc => (runtimePanic .nilDeref : Sem Next)
    | .func (.method name) first captured => 
      match (first[0]? : Option Value) with
      | some .nilIface => runtimePanic .nilDeref
      | some (.iface t w) => do
        if (← nilAhead ((← program).types.size + Made.depth) t w name) != some false then
          unsupported (.noEntry "op/nilCheck.the method's receiver behind this interface value is a nil pointer, or cannot be seen to be none, and the arguments act or may panic (ledger 612)")
        pure (.value (.func (.method name) first captured))
      | _ => pure (.value (.func (.method name) first captured))
    | x => pure (.value x)).run P w = .ok (.value v) w := by
  cases hv with
  | data hd => cases hd <;> first | rfl | simp [V.sure] at h
  | ptr | elp | vptr | fn => rfl
  | _ => simp [V.sure] at h

theorem evR_ok {o : Oper} {ans : Ans} {r : V} {obs : List Prop} (he : evR P V0 o.op ans = some (r, obs)) (ho : AllP obs) (hs : Sub V0 S) (h : Rel E σ S a w) :
    ∃ v, (execOp a.eval o).run P w = .ok (.value v) w ∧ CV σ w (badOf E σ S.bx) r v := by
  unfold evR at he
  unfold execOp
  split at he
  · rename_i x hop
    simp only [hop]
    exact ⟨_, rfl, evMove_ok he hs h⟩
  · rename_i x hop
    simp only [hop]
    exact ⟨_, rfl, evMove_ok he hs h⟩
  · rename_i c p q hop
    simp only [hop]
    split at he
    · rename_i hc
      have hv := evo_ok hs h hc
      generalize a.eval c = vc at hv ⊢
      cases hv with
      | data hd => cases hd; exact ⟨_, rfl, evMove_ok he hs h⟩
    · rename_i hc
      have hv := evo_ok hs h hc
      generalize a.eval c = vc at hv ⊢
      cases hv with
      | data hd => cases hd; exact ⟨_, rfl, evMove_ok he hs h⟩
    · rename_i b hc
      have hv := evo_ok hs h hc
      generalize a.eval c = vc at hv ⊢
      cases hv with
      | data hd =>
        cases hd
        split at he
        · rename_i x y hx hy
          split at he
          · rename_i bx by' hbx hby
            injection he with he; injection he with h1 h2; subst h1
            refine ⟨_, rfl, ?_⟩
            rw [asB_ok hbx (evo_ok hs h hx), asB_ok hby (evo_ok hs h hy)]
            cases b <;> exact .data .bool
          · cases he
        · cases he
    · cases he
  · rename_i t x hop
    simp only [hop]
    obtain ⟨v, h1, h2⟩ := evLoad_ok he ho hs h
    exact ⟨v, by simp only [Sem.run_bind, h1, Result.andThen_ok]; rfl, h2⟩
  · rename_i x hop
    simp only [hop]
    split at he
    · rename_i s hx
      split at he
      · rename_i hsure
        injection he with he; injection he with h1 h2; subst h1
        have hv := evo_ok hs h hx
        exact ⟨_, sure_run hsure hv, hv⟩
      · cases he
    · cases he
  · rename_i op t x y ty hop
    simp only [hop]
    split at he
    · rename_i s r0 hx hy
      obtain ⟨v, h1, h2⟩ := run_evBin he ho x y (evo_ok hs h hx) (evo_ok hs h hy)
      exact ⟨v, by rw [Sem.run_bind, h1]; rfl, h2⟩
    · cases he
  · rename_i op t x hop
    simp only [hop]
    split at he
    · rename_i s hx
      split at he
      · rename_i r0 hr
        injection he with he; injection he with h1 h2; subst h1
        obtain ⟨v, h3, h4⟩ := run_evUn (P := P) hr (evo_ok hs h hx)
        exact ⟨v, by simp only [Sem.run_bind, h3, Result.andThen_ok]; rfl, h4⟩
      · cases he
    · cases he
  · rename_i src dst x hop
    simp only [hop]
    split at he
    · rename_i s hx
      split at he
      · rename_i r0 hr
        injection he with he; injection he with h1 h2; subst h1
        obtain ⟨v, h3, h4⟩ := run_evConv hr (evo_ok hs h hx)
        exact ⟨v, by simp only [Sem.run_bind, h3, Result.andThen_ok]; rfl, h4⟩
      · cases he
    · cases he
  · rename_i f first caps hop
    simp only [hop]
    split at he
    · rename_i l hf hl
      injection he with he; injection he with h1 h2; subst h1
      obtain ⟨h3, h4⟩ := evList_ok hs h hl
      have hfirst : first = #[] := by cases first; simp_all
      subst hfirst
      rw [show Array.map a.eval #[] = (#[] : Array Value) from by simp]
      refine ⟨_, rfl, CV.fn (l := l) (caps.map a.eval) (fun j => (caps.map a.eval).getD j undef) (by rw [h3]; simp) (fun j hj => ?_) fun j s hj => ?_⟩
      · have : j < caps.size := by rw [h3] at hj; simpa using hj
        simp [this]
      · obtain ⟨x, hx, hc⟩ := h4 j s hj
        have hx' : caps[j]? = some x := by simpa using hx
        simpa [hx'] using hc
    · cases he
  · rename_i t x lo hi mx hop
    simp only [hop]
    obtain ⟨v, h1, h2⟩ := run_evSlice he ho hs h
    exact ⟨v, by simp only [Sem.run_bind, h1, Result.andThen_ok]; rfl, h2⟩
  · rename_i t x f hop
    simp only [hop]
    split at he
    · rename_i r0 hr
      injection he with he; injection he with h1 h2; subst h1
      obtain ⟨v, h3, h4⟩ := evFieldAddr_ok hr hs h
      exact ⟨v, by simp only [Sem.run_bind, h3, Result.andThen_ok]; rfl, h4⟩
    · cases he
  · rename_i t x f hop
    simp only [hop]
    obtain ⟨v, h1, h2⟩ := run_evField he ho hs h
    exact ⟨v, by simp only [Sem.run_bind, h1, Result.andThen_ok]; rfl, h2⟩
  · rename_i t x i hop
    simp only [hop]
    obtain ⟨v, h1, h2⟩ := evIndexAddr_ok he ho hs h
    exact ⟨v, by simp only [Sem.run_bind, h1, Result.andThen_ok]; rfl, h2⟩
  · rename_i t x i hop
    simp only [hop]
    obtain ⟨v, h1, h2⟩ := run_evIndex he ho hs h
    exact ⟨v, by simp only [Sem.run_bind, h1, Result.andThen_ok]; rfl, h2⟩
  · rename_i x i hop
    simp only [hop]
    split at he
    · rename_i l hx
      split at he
      · rename_i s hl
        injection he with he; injection he with h1 h2; subst h1
        have hv := evo_ok hs h hx
        generalize a.eval x = vx at hv ⊢
        cases hv with
        | data hd => cases hd
        | tup vs u hsz hvs hd =>
          have hlt := (List.getElem?_eq_some_iff.1 hl).1
          refine ⟨u i, ?_, hd i s hl⟩
          simp [Instr.extract, hvs i hlt]
      · cases he
    · cases he
  · rename_i c hop
    simp only [hop]
    split at he
    · rename_i b hb
      split at he
      · rename_i r0 hr
        injection he with he; injection he with h1 h2; subst h1
        obtain ⟨v, h3, h4⟩ := run_evBuiltin hr hs h o.type (c.args.map fun | .const _ => true | _ => false)
        refine ⟨v, ?_, h4⟩
        have he2 : (c.args.toList.map a.eval).toArray = c.args.map a.eval := by rw [← Array.toList_map, Array.toArray_toList]
        rw [he2] at h3
        simp only [resolve, hb, Sem.run_bind, Sem.run_pure, Result.andThen_ok, invoke]
        exact h3
      · cases he
    · cases he
  · cases he
end
end Go.Hb

/-
  THE SYMBOLIC LAYER, PART L: 'exec1' is right, calls by contract too.
-/
namespace Go.Hb
open Go.RowKit
section
variable {P : Program} {E : Env} {σ σ' : Nat → Option Value} {S V0 : St} {a : Act} {w w' : World} {bad : Nat → Prop} {key : Nat} {dst : Option Tmp}

/-- What goes on behind an operation. -/
def Onward (E : Env) (σ : Nat → Option Value) (S : St) (key : Nat) (K : Act → World → Prop) : Prop :=
  ∀ σ' a' w', Rel E σ' S a' w' → (∀ k, (∀ j, k ≠ key + j * 1000000) → σ' k = σ k) → K a' w'
theorem weakK (h : ∀ k, k ≠ key → σ' k = σ k) : ∀ k, (∀ j, k ≠ key + j * 1000000) → σ' k = σ k := fun k hk => h k (by have := hk 0; rwa [Nat.zero_mul, Nat.add_zero] at this)
theorem freshK (h : ∀ j, σ (key + j * 1000000) = none) : σ key = none := by have := h 0; rwa [Nat.zero_mul, Nat.add_zero] at this

theorem wp_of_good {o : Oper} {e : Eff} {K : Act → World → Prop} {Q : Exit → Act → World → Prop} {r : Result Next} (hr : (execOp a.eval o).run P w = r) (g : Good E σ S key a r o.dst e) (hK : Onward E σ (e.app S key o.dst) key K) : o.wp P a w K Q := by
  obtain ⟨n, v, w', σ', rfl, hn, _, hk, hrel⟩ := g
  unfold Oper.wp
  rw [hr]
  rcases hn with rfl | ⟨rfl, rfl⟩
  · rw [Oper.upon_value]; exact hK σ' _ _ hrel (weakK hk)
  · rw [Oper.upon_skip]; exact hK σ' _ _ hrel (weakK hk)

theorem Rel.retag {dst : Option Nat} {b : Bool} (h : Rel E σ (S.slot dst (.bool b)) a w) : Rel E σ (S.slot dst (.tt b)) a w := by
  cases dst with
  | none => exact h
  | some t =>
    refine ⟨h.toMem, h.dfs, h.nt, fun u r hr => ?_⟩
    have hr' : aget (aput S.fr t (.tt b)) u = some r := hr
    rw [aget_aput] at hr'
    by_cases hu : u = t
    · rw [if_pos hu] at hr'
      injection hr' with hr'; subst hr'
      obtain ⟨v, hv, hc⟩ := h.fr u (.bool b) (by show aget (aput S.fr t (.bool b)) u = _; rw [aget_aput, if_pos hu])
      refine ⟨v, hv, ?_⟩
      cases hc with
      | data hd => cases hd; exact .data .tt
    · rw [if_neg hu] at hr'
      exact h.fr u r (by show aget (aput S.fr t (.bool b)) u = _; rw [aget_aput, if_neg hu]; exact hr')

/-- The callee's view of a caller's memory. -/
theorem mem_callee (h : Rel E σ S a w) : Mem { w0 := w, bad0 := badOf E σ S.bx, wr := fun _ => False } (fun _ => none) [] w := by
  refine ⟨by simp [aget], by simp [aget], by simp [aget], rfl, rfl, rfl, Nat.le_refl _, fun _ _ _ => rfl, ?_⟩
  rintro b (hb | ⟨k, B, hg, hkb⟩)
  · exact Nat.lt_of_lt_of_le (h.hbad b hb) h.size
  · exact (h.own k B b hg hkb).1

theorem grownBy_of_mem {E : Env} {σ : Nat → Option Value} {bx : List (Nat × Box)} (hw : ∀ b, ¬ E.wr b) (h : Mem E σ bx w') : E.w0.grownBy w' none :=
  ⟨h.os, h.tape, h.output, h.size, fun k hk _ => h.old k hk (hw k)⟩

theorem wp_call {o : Oper} {c : Call} {f : Operand} {g : FuncId} {caps args : List V} {K : Act → World → Prop} {Q : Exit → Act → World → Prop} (ho : o.op = .call c) (hc : c.callee = .value f) 
    (hf : evo V0.fr f = some (.fn g caps)) (ha : evList V0.fr c.args.toList = some args) (hs : Sub V0 S) (h : Rel E σ S a w)
    (hcall : ∀ vals : Array Value, vals.size = (args ++ caps).length → (∀ (j : Nat) (s : V), (args ++ caps)[j]? = some s → ∃ v, vals[j]? = some v ∧ CV σ w (badOf E σ S.bx) s v) →
      Enters P g ∧ Calls P g vals w fun e w' => ∃ v, e = .returned v ∧ K (a.put o.dst v) w') : o.wp P a w K Q := by
  have hv := evo_ok hs h hf
  obtain ⟨h3, h4⟩ := evList_ok hs h ha
  have harg : ∀ (j : Nat) (s : V), args[j]? = some s → ∃ v, (c.args.map a.eval)[j]? = some v ∧ CV σ w (badOf E σ S.bx) s v := by
    intro j s hj
    obtain ⟨x, hx, hcv⟩ := h4 j s hj
    refine ⟨a.eval x, ?_, hcv⟩
    have : c.args[j]? = some x := by simpa using hx
    simp [this]
  have hlen : (c.args.map a.eval).size = args.length := by rw [h3]; simp
  have key : ∀ vs : Array Value, a.eval f = .func (.func g) #[] vs → vs.size = caps.length → (∀ (j : Nat) (s : V), caps[j]? = some s → ∃ v, vs[j]? = some v ∧ CV σ w (badOf E σ S.bx) s v) → o.wp P a w K Q := by
    intro vs hvs hsz hcap
    obtain ⟨hent, hcalls⟩ := hcall (c.args.map a.eval ++ vs) (by simp [hlen, hsz]) (fun j s hj => by
      rw [List.getElem?_append] at hj
      rw [Array.getElem?_append, hlen]
      by_cases hjl : j < args.length
      · rw [if_pos hjl] at hj ⊢; exact harg j s hj
      · rw [if_neg hjl] at hj ⊢; exact hcap _ s hj)
    have hrun : (execOp a.eval o).run P w = .ok (.enter g (c.args.map a.eval ++ vs)) w := by
      unfold execOp
      simp only [ho, resolve, hc, hvs, Deferred.ofValue, Sem.run_bind, Sem.run_pure, Result.andThen_ok, invoke, Array.empty_append]
      exact hent _ w
    unfold Oper.wp
    rw [hrun, Oper.upon_enter]
    refine hcalls.mono ?_
    rintro e w' ⟨v, rfl, hk⟩
    exact hk
  generalize a.eval f = fv at hv key
  cases hv with
  | data hd => cases hd with
    | fn vs u hsz hvs hd => exact key vs rfl hsz fun j s hj => ⟨u j, hvs j (List.getElem?_eq_some_iff.1 hj).1, .data (hd j s hj)⟩
  | fn vs u hsz hvs hd => exact key vs rfl hsz fun j s hj => ⟨u j, hvs j (List.getElem?_eq_some_iff.1 hj).1, hd j s hj⟩

theorem u8s_get : ∀ {l : List V} {ns : List Int}, u8s l = some ns → ns.length = l.length ∧ ∀ (j : Nat) (n : Int), ns[j]? = some n → l[j]? = some (.int .u8 n)
  | [], ns, h => by simp [u8s] at h; subst h; simp
  | s :: l, ns, h => by
    unfold u8s at h
    split at h
    · rename_i heq; cases heq
    · rename_i x l' heq
      injection heq with e1 e2; subst e1 e2
      split at h
      · rename_i r hr
        injection h with h; subst h
        obtain ⟨h1, h2⟩ := u8s_get hr
        refine ⟨by simp [h1], fun j n hj => ?_⟩
        cases j with
        | zero => simp at hj; subst hj; rfl
        | succ j => simpa using h2 j n (by simpa using hj)
      · cases h
    · cases h

theorem run_evBytes {src dst : TypeId} {x : Operand} {s : V} {obs : List Prop} (he : evBytes P V0 src dst x = some (s, obs)) (ho : AllP obs) (hs : Sub V0 S) (h : Rel E σ S a w) :
    ∃ v, (convert src dst (a.eval x)).run P w = .ok v w ∧ CV σ w (badOf E σ S.bx) s v := by
  unfold evBytes at he
  split at he
  · rename_i e hsrc hdst
    split at he
    · rename_i k off len cap hel hx
      have hv := evo_ok hs h hx
      split at he
      · rename_i ty l hk
        split at he
        · rename_i ns hns
          split at he
          · rename_i hlen
            rw [Nat.beq_eq] at hlen
            injection he with he; injection he with h1 h2; subst h1
            cases h.box k _ (hs.bx _ _ hk) with
            | cells b cs hσ hh hsz hc =>
              generalize a.eval x = y at hv ⊢
              cases hv with
              | data hd => cases hd
              | row b' hb' =>
                rw [hσ] at hb'
                injection hb' with hb'; injection hb' with hb'; injection hb' with hb'; injection hb' with hb'
                subst hb'
                obtain ⟨g1, g2⟩ := u8s_get hns
                refine ⟨_, ?_, .data .str⟩
                rw [run_convert_bytes_string w src dst e _ len cap hsrc hel hdst]
                refine run_bytesToString w _ len cap ns ?_
                have := run_loadCells_list (P := P) w ⟨b, off, none⟩ (ns.map (Value.int .u8)) (fun j v hj => by
                  rw [addr_add]
                  have hj' : j < ns.length := by
                    have := (List.getElem?_eq_some_iff.1 hj).1
                    simpa using this
                  have hg := g2 j ns[j] (List.getElem?_eq_getElem hj')
                  rw [List.getElem?_take, if_pos (by omega), List.getElem?_drop] at hg
                  obtain ⟨u, h3, h4, _⟩ := hc _ _ hg
                  have hu : u = .int .u8 ns[j] := by cases h4 with
                    | data hd => cases hd; rfl
                  have hlt : off + j < cs.size := (Array.getElem?_eq_some_iff.1 h3).1
                  simp [List.getElem?_eq_getElem hj'] at hj
                  rw [← hj, ← hu]
                  have : cs[off + j] = u := by
                    rw [Array.getElem?_eq_getElem hlt] at h3; exact Option.some.inj h3
                  simp [World.cell?, hh, hlt, this])
                simpa [hlen] using this
          · cases he
        · cases he
      · cases he
    · rename_i n f hel hx
      have hv := evo_ok hs h hx
      injection he with he; injection he with h1 h2; subst h1 h2
      obtain ⟨hpos, hf, _⟩ := ho
      have hv := hv.toD rfl
      generalize a.eval x = y at hv ⊢
      cases hv with
      | seq o b off c u hoo hnc hl hc hd =>
        rw [hoo hpos]
        refine ⟨_, ?_, .data .str⟩
        rw [run_convert_bytes_string w src dst e _ n c hsrc hel hdst]
        refine run_bytesToString w _ n c _ ?_
        have := run_loadCells_list (P := P) w ⟨b, off, none⟩ (((List.range n).map fun i => u8At (f i)).map (Value.int .u8)) (fun j v hj => by
          rw [addr_add]
          have hj' : j < n := by
            have := (List.getElem?_eq_some_iff.1 hj).1
            simpa using this
          have h4 := hd j 0 (.int .u8 (u8At (f j))) hj' (by rw [hf j hj']; simp [u8At])
          have hcell := (hc j 0 hj' (by omega)).2
          simp only [Nat.mul_one, Nat.add_zero] at hcell
          rw [hcell]
          simp [hj'] at hj
          rw [← hj]
          generalize u j 0 = z at h4 ⊢
          cases h4; rfl)
        simpa using this
    · cases he
  · cases he

theorem mapArg_ok : ∀ {l : List V} {q : Nat} {l' : List V}, mapArg l = some (q, l') → l'.length = l.length ∧ ∀ (j : Nat) (s' : V), l'[j]? = some s' → ∃ s, l[j]? = some s ∧ ((s' = .map 0 ∧ s = .map q) ∨ (s' = s ∧ V.ltB 0 s = true))
  | [], _, _, h => by simp [mapArg] at h
  | x :: l, q, l', h => by
    have gen : (match V.ltB 0 x with | true => (match mapArg l with | some (q, l') => some (q, x :: l') | none => none) | false => none) = some (q, l') →
        l'.length = (x :: l).length ∧ ∀ (j : Nat) (s' : V), l'[j]? = some s' → ∃ s, (x :: l)[j]? = some s ∧ ((s' = .map 0 ∧ s = .map q) ∨ (s' = s ∧ V.ltB 0 s = true)) := by
      intro h
      split at h
      · rename_i hx
        split at h
        · rename_i q1 l1 hm
          injection h with h; injection h with e1 e2; subst e1 e2
          obtain ⟨h1, h2⟩ := mapArg_ok hm
          refine ⟨by simp [h1], fun j s' hj => ?_⟩
          cases j with
          | zero => simp at hj; subst hj; exact ⟨x, rfl, .inr ⟨rfl, hx⟩⟩
          | succ j =>
            obtain ⟨s, h3, h4⟩ := h2 j s' (by simpa using hj)
            exact ⟨s, by simpa using h3, h4⟩
        · cases h
      · cases h
    cases x with
    | map q1 =>
      unfold mapArg at h
      split at h
      · rename_i hl
        injection h with h; injection h with e1 e2; subst e1 e2
        refine ⟨rfl, fun j s' hj => ?_⟩
        cases j with
        | zero => simp at hj; subst hj; exact ⟨_, rfl, .inl ⟨rfl, rfl⟩⟩
        | succ j => exact ⟨s', by simpa using hj, .inr ⟨rfl, ltL_get hl j s' (by simpa using hj)⟩⟩
      · cases h
    | _ => exact gen (by unfold mapArg at h; exact h)

theorem zeroCells_get (z : Array Value) (m i j : Nat) (hi : i < m) (hj : j < z.size) : (Builtin.zeroCells z m).toList[i * z.size + j]? = z[j]? := by
  have hlt : i * z.size + j < m * z.size := by
    have : (i + 1) * z.size ≤ m * z.size := Nat.mul_le_mul_right _ hi
    rw [Nat.add_mul] at this
    omega
  have hmod : (i * z.size + j) % z.size = j := by rw [Nat.mul_comm, Nat.mul_add_mod, Nat.mod_eq_of_lt hj]
  simp only [Builtin.zeroCells, Array.toList_map, List.getElem?_map, Array.toList_range, List.getElem?_range hlt, Option.map_some, hmod]
  rw [getElem!_pos z j hj, Array.getElem?_eq_getElem hj]
theorem zeroCells_mem (z : Array Value) (m : Nat) (h : ∀ j, j < z.size → ∃ u, z[j]? = some u ∧ u.oneCell' = true) : ∀ v ∈ (Builtin.zeroCells z m).toList, v.oneCell' = true := by
  intro v hv
  simp only [Builtin.zeroCells, Array.toList_map, List.mem_map, Array.toList_range, List.mem_range] at hv
  obtain ⟨i, hi, rfl⟩ := hv
  have hpos : 0 < z.size := by
    rcases Nat.eq_zero_or_pos z.size with h0 | h0
    · rw [h0, Nat.mul_zero] at hi; omega
    · exact h0
  have hlt := Nat.mod_lt i hpos
  obtain ⟨u, hu, h1⟩ := h _ hlt
  rw [getElem!_pos z _ hlt]
  rw [Array.getElem?_eq_getElem hlt] at hu
  injection hu with hu
  rw [hu]; exact h1
theorem good_clear {t ty : TypeId} {x : Operand} {e : Eff} {obs : List Prop} (he : evClear P V0 t x = some (e, obs)) (hs : Sub V0 S) (h : Rel E σ S a w) (ht : ∀ t, dst = some t → t < S.nt) :
    ∃ w', (Builtin.clear_ #[t] ty #[a.eval x]).run P w = .ok (.tuple #[]) w' ∧ Good E σ S key a (.ok (.value (.tuple #[])) w') dst e := by
  unfold evClear at he
  split at he
  · rename_i k sz lo el hx htt
    have hv := evo_ok hs h hx
    generalize a.eval x = y at hv ⊢
    split at he
    · rename_i ty' sz' n f z hbx hz
      split at he
      · rename_i hb
        injection he with he; injection he with h1 h2; subst h1 h2
        simp only [Bool.and_eq_true, Nat.beq_eq] at hb
        obtain ⟨⟨rfl, hzl⟩, hzd⟩ := hb
        obtain ⟨i, zv, hi, hzv, hzs, hzr⟩ := zeroL_ok (σ := σ) hz w (badOf E σ S.bx)
        have hbox := hs.bx _ _ hbx
        cases h.box k _ hbox with
        | vec v0 xs hk hown hl hc =>
          cases hv with
          | data hd => cases hd
          | tail g n' c hg hlo =>
            rw [hk] at hg
            injection hg with hg; subst hg
            rcases hown.2 with ⟨h0, _⟩ | ⟨g', cap, cur, hvv, _, hh, hnc, hcm, hcur, htake⟩
            · cases h0
            · injection hvv with e1 e2 e3
              injection e1 with e1; injection e1 with e1
              subst e1 e2 e3
              have hxl := hown.1
              obtain ⟨m, hm⟩ : ∃ m, n' - lo = m + 1 := ⟨n' - lo - 1, by omega⟩
              have hlen : (Builtin.zeroCells zv.cells (n' - lo)).toList.length = (n' - lo) * sz := by
                rw [Array.length_toList, size_zeroCells, hzs, hzl]
              have hsum : lo * sz + (n' - lo) * sz = n' * sz := by rw [← Nat.add_mul]; congr 1; omega
              have hle2 : n' * sz ≤ c * sz := Nat.mul_le_mul_right sz hnc
              have hones := zeroCells_mem zv.cells (n' - lo) fun j hj => by
                have hj' : j < z.length := by rw [← hzs]; exact hj
                obtain ⟨u, h1, _, h3⟩ := hzr j _ (List.getElem?_eq_getElem hj')
                exact ⟨u, h1, h3⟩
              have hst := run_storeCells_at P g (lo * sz) ty' (Builtin.zeroCells zv.cells (n' - lo)).toList 0 cur w hh (by rw [hlen]; omega) hones
              simp only [Nat.add_zero] at hst
              refine ⟨w.setRow g (cur.toList.take (lo * sz) ++ (Builtin.zeroCells zv.cells (n' - lo)).toList ++ cur.toList.drop (lo * sz + (Builtin.zeroCells zv.cells (n' - lo)).toList.length)).toArray, ?_, _, .tuple #[], _, σ, rfl, .inl rfl, fun _ _ h => h, fun _ _ => rfl, (h.write (B1 := .vec ty' sz n' fun i => match Nat.blt i lo with | true => f i | false => z) hbox (by rw [hk]; rfl) (grownBy_setRow w g _) fun hmm => ?_).slot ht .junk⟩
              · simp only [Builtin.clear_, hm]
                simp only [hm] at hst
                simp [run_underlying htt, run_zeroValue hi hzv, hst]
              · refine .vec _ (xs.take (lo * sz) ++ (Builtin.zeroCells zv.cells (n' - lo)).toList) hk ⟨?_, .inr ⟨g, c, _, rfl, Nat.zero_le _, setRow_heap w g cur _ ty' (0, 0) hh, hnc, hcm, ?_, ?_⟩⟩ (fun q hq => ?_) fun q j r hq hr => ?_
                · rw [List.length_append, hlen, List.length_take, hxl, Nat.min_eq_left (by omega)]; omega
                · simp only [List.size_toArray, List.length_append, hlen, List.length_take, List.length_drop, Array.length_toList, hcur]; omega
                · have h5 := take_splice cur.toList (Builtin.zeroCells zv.cells (n' - lo)).toList (lo * sz) (n' * sz) (by rw [hlen]; omega) (by rw [Array.length_toList, hcur]; exact hle2)
                  have hd : xs.drop (lo * sz + (Builtin.zeroCells zv.cells (n' - lo)).toList.length) = [] := List.drop_eq_nil_of_le (by rw [hlen, hsum, hxl]; exact Nat.le_refl _)
                  rw [htake, hd, List.append_nil] at h5
                  exact h5
                · cases hbq : Nat.blt q lo with
                  | true => exact hl q hq
                  | false => exact hzl
                · have hjs : j < sz := by
                    have hlt := (List.getElem?_eq_some_iff.1 hr).1
                    cases hbq : Nat.blt q lo with
                    | true => rw [hbq] at hlt; simp only [hl q hq] at hlt; exact hlt
                    | false => rw [hbq] at hlt; simp only [hzl] at hlt; exact hlt
                  have hqs : q * sz + j < lo * sz ↔ q < lo := by
                    constructor
                    · intro h1
                      rcases Nat.lt_or_ge q lo with h2 | h2
                      · exact h2
                      · have : lo * sz ≤ q * sz := Nat.mul_le_mul_right sz h2
                        omega
                    · intro h1
                      have : (q + 1) * sz ≤ lo * sz := Nat.mul_le_mul_right sz h1
                      rw [Nat.add_mul] at this
                      omega
                  have htl : (xs.take (lo * sz)).length = lo * sz := by rw [List.length_take, hxl, Nat.min_eq_left (by omega)]
                  rw [List.getElem?_append, htl]
                  cases hbq : Nat.blt q lo with
                  | true =>
                    rw [hbq] at hr
                    have hql := Nat.le_of_ble_eq_true hbq
                    rw [if_pos (hqs.2 hql), List.getElem?_take, if_pos (hqs.2 hql)]
                    obtain ⟨u, h1, h2⟩ := hc q j r hq hr
                    exact ⟨u, h1, h2.mono hmm⟩
                  | false =>
                    rw [hbq] at hr
                    have hql : lo ≤ q := by
                      rcases Nat.lt_or_ge q lo with h2 | h2
                      · have := Nat.ble_eq_true_of_le h2
                        rw [show Nat.blt q lo = true from this] at hbq; cases hbq
                      · exact h2
                    rw [if_neg (fun h1 => by have := hqs.1 h1; omega)]
                    have hsub : q * sz + j - lo * sz = (q - lo) * zv.cells.size + j := by
                      rw [hzs, hzl, Nat.sub_mul]
                      have : lo * sz ≤ q * sz := Nat.mul_le_mul_right sz hql
                      omega
                    rw [hsub, zeroCells_get zv.cells (n' - lo) (q - lo) j (by omega) (by rw [hzs, hzl]; exact hjs)]
                    obtain ⟨u, h1, h2, _⟩ := hzr j r hr
                    exact ⟨u, h1, (h2.toD (allD_get hzd j r hr)).mono hmm⟩
      · cases he
    · cases he
  · cases he
theorem good_head {t : TypeId} {x : Operand} {lo hi mx : Option Operand} {e : Eff} {obs : List Prop} (he : evHead P V0 key t x lo hi mx = some (e, obs)) (ho : AllP obs) (hs : Sub V0 S) (h : Rel E σ S a w) (ht : ∀ t, dst = some t → t < S.nt) (hf : σ key = none) :
    ∃ v w', (Instr.sliceAt t (a.eval x) (lo.map a.eval) (hi.map a.eval) (mx.map a.eval)).run P w = .ok v w' ∧ Good E σ S key a (.ok (.value v) w') dst e := by
  unfold evHead at he
  split at he
  · rename_i y
    split at he
    · rename_i k hh el hx hy htt
      have hv := evo_ok hs h hx
      have hyv := evo_ok hs h hy
      generalize hae : a.eval x = vx at hv ⊢
      split at he
      · rename_i ty sz n f sz' hbx hsz
        split at he
        · rename_i hb
          rw [Nat.beq_eq] at hb; subst hb
          injection he with he; injection he with h1 h2; subst h1 h2
          obtain ⟨ho1, ho2, ho3, _⟩ := ho
          have hbox := hs.bx _ _ hbx
          cases h.box k _ hbox with
          | vec v0 xs hk hown hl hc =>
            rcases hown.2 with ⟨_, h0⟩ | ⟨g, cap, cur, rfl, _, hg, hnc, hcm, hcur, htake⟩
            · omega
            · have hvv : vx = .slice (some ⟨g, 0, none⟩) n cap := by
                cases hv with
                | data hd => cases hd
                | vec v'' hv'' => rw [hk] at hv''; injection hv'' with hv''; exact hv''.symm
              subst hvv
              have hey : a.eval y = .int .i64 hh := by
                generalize a.eval y = vy at hyv
                cases hyv with
                | data hd => cases hd; rfl
              have hle : hh.toNat ≤ n := by omega
              have hmul : hh.toNat * sz ≤ n * sz := Nat.mul_le_mul_right sz hle
              have h2 := h.swap (w' := w) (k1 := key) (v1 := .slice (some ⟨g, 0, none⟩) hh.toNat cap) (B1 := .vec ty sz hh.toNat f) hbox hf ⟨rfl, rfl, rfl, Nat.le_refl _, fun _ _ _ => rfl⟩ (fun b hb => ?_) (fun hmm => ?_)
              · refine ⟨_, w, ?_, _, .slice (some ⟨g, 0, none⟩) hh.toNat cap, w, _, rfl, .inl rfl, fresh_mono hf _, fun k' hk' => ?_, h2.slot ht (.vec _ (by simp))⟩
                · have hbnd := run_sliceBounds (P := P) (w := w) (a := a) (lo := none) (hi := some y) (l := 0) (h := hh) (len := n) (cap := cap) true (.inl ⟨rfl, rfl⟩) (.inr ⟨y, .i64, rfl, hey⟩) (by omega) ho2 hnc
                  simp only [Option.map_none, Option.map_some] at hbnd
                  simp [Instr.sliceAt, run_underlying htt, Instr.slice, hbnd, run_sizeOf hsz, Addr.add]
                · show (if k' = key then _ else σ k') = σ k'
                  rw [if_neg hk']
              · injection hb with hb; subst hb
                have h3 : blkOf (σ k) = some g := by rw [hk]; rfl
                exact ⟨(h.own k _ g hbox h3).1, .inr h3⟩
              · refine .vec (.slice (some ⟨g, 0, none⟩) hh.toNat cap) (xs.take (hh.toNat * sz)) (by simp) ⟨?_, .inr ⟨g, cap, cur, rfl, Nat.zero_le _, hg, by omega, hcm, hcur, ?_⟩⟩ (fun i hi => hl i (by omega)) fun i j r hi hr => ?_
                · rw [List.length_take, hown.1]; omega
                · rw [← htake, List.take_take, Nat.min_eq_left hmul]
                · obtain ⟨u, h4, h5⟩ := hc i j r (by omega) hr
                  have hjs : j < sz := by
                    have hlt := (List.getElem?_eq_some_iff.1 hr).1
                    rw [hl i (by omega)] at hlt; exact hlt
                  have hlt2 : i * sz + j < hh.toNat * sz := by
                    have : (i + 1) * sz ≤ hh.toNat * sz := Nat.mul_le_mul_right sz hi
                    rw [Nat.add_mul] at this
                    omega
                  exact ⟨u, by rw [List.getElem?_take, if_pos hlt2]; exact h4, h5.mono hmm⟩
        · cases he
      · cases he
    · cases he
  · cases he

theorem idxK_ok : ∀ {l : List Nat} {i k j : Nat}, idxK l i k = some j → i ≤ j ∧ l[j - i]? = some k
  | [], _, _, _, h => by simp [idxK] at h
  | q :: l, i, k, j, h => by
    unfold idxK at h
    split at h
    · rename_i hq
      rw [Nat.beq_eq] at hq
      injection h with h; subst h hq
      exact ⟨Nat.le_refl _, by simp⟩
    · obtain ⟨h1, h2⟩ := idxK_ok h
      refine ⟨by omega, ?_⟩
      rw [show j - i = (j - (i + 1)) + 1 by omega]
      simpa using h2
theorem idxK_none : ∀ {l : List Nat} {i k : Nat}, idxK l i k = none → k ∉ l
  | [], _, _, _ => by simp
  | q :: l, i, k, h => by
    unfold idxK at h
    split at h
    · cases h
    · rename_i hq
      have hne : q ≠ k := fun e => by rw [e] at hq; simp at hq
      have := idxK_none h
      simp only [List.mem_cons, not_or]
      exact ⟨fun e => hne e.symm, this⟩
theorem nodupN_ok : ∀ {l : List Nat}, nodupN l = true → ∀ i j k : Nat, l[i]? = some k → l[j]? = some k → i = j
  | [], _, i, j, k, h, _ => by simp at h
  | q :: l, hl, i, j, k, h1, h2 => by
    simp only [nodupN, Bool.and_eq_true] at hl
    obtain ⟨hq, hl⟩ := hl
    have hn : q ∉ l := by
      cases hx : idxK l 0 q with
      | none => exact idxK_none hx
      | some x => rw [hx] at hq; cases hq
    cases i with
    | zero =>
      cases j with
      | zero => rfl
      | succ j =>
        simp only [List.getElem?_cons_zero, Option.some.injEq] at h1
        simp only [List.getElem?_cons_succ] at h2
        subst h1
        exact absurd (List.mem_of_getElem? h2) hn
    | succ i =>
      cases j with
      | zero =>
        simp only [List.getElem?_cons_zero, Option.some.injEq] at h2
        simp only [List.getElem?_cons_succ] at h1
        subst h2
        exact absurd (List.mem_of_getElem? h1) hn
      | succ j =>
        simp only [List.getElem?_cons_succ] at h1 h2
        rw [nodupN_ok hl i j k h1 h2]
theorem selK_get {bx : List (Nat × Box)} {φ : V → V} : ∀ {K : List Nat} {i0 : Nat} {r : List (Nat × Box)}, selK bx φ i0 K = some r → ∀ i B, aget r i = some B → i0 ≤ i ∧ ∃ k B0, K[i - i0]? = some k ∧ aget bx k = some B0 ∧ B = Box.mapK φ B0
  | [], i0, r, h, i, B, hg => by
    simp only [selK, Option.some.injEq] at h; subst h
    simp [aget] at hg
  | k :: K, i0, r, h, i, B, hg => by
    unfold selK at h
    split at h
    · rename_i B0 r0 h1 h2
      injection h with h; subst h
      simp only [aget] at hg
      split at hg
      · rename_i hb
        rw [Nat.beq_eq] at hb
        injection hg with hg; subst hb hg
        exact ⟨Nat.le_refl _, k, B0, by simp, h1, rfl⟩
      · obtain ⟨h3, k', B', h4, h5⟩ := selK_get h2 i B hg
        refine ⟨by omega, k', B', ?_, h5⟩
        rw [show i - i0 = (i - (i0 + 1)) + 1 by omega]
        simpa using h4
    · cases h
theorem selK_all {bx : List (Nat × Box)} {φ : V → V} : ∀ {K : List Nat} {i0 : Nat} {r : List (Nat × Box)}, selK bx φ i0 K = some r → ∀ k ∈ K, ∃ B, aget bx k = some B
  | [], _, _, _, k, hk => by simp at hk
  | q :: K, i0, r, h, k, hk => by
    unfold selK at h
    split at h
    · rename_i B0 r0 h1 h2
      rcases List.mem_cons.1 hk with rfl | hk
      · exact ⟨_, h1⟩
      · exact selK_all h2 k hk
    · cases h
theorem mapOwn_get {K : List Nat} {key : Nat} : ∀ {bs : List (Nat × Box)} {k : Nat} {B : Box}, aget (mapOwn K key bs) k = some B → ∃ i B1, aget bs i = some B1 ∧ k = keyK K key i ∧ B = Box.mapK (fromK K key) B1
  | [], k, B, h => by simp [mapOwn, aget] at h
  | (j, C) :: bs, k, B, h => by
    simp only [mapOwn, aget] at h
    split at h
    · rename_i hb
      rw [Nat.beq_eq] at hb
      injection h with h
      exact ⟨j, C, by simp [aget], hb.symm, h.symm⟩
    · rename_i hb
      obtain ⟨i, B1, h1, h2, h3⟩ := mapOwn_get h
      refine ⟨i, B1, ?_, h2, h3⟩
      have hji : Nat.beq j i = false := by
        cases hx : Nat.beq j i with
        | false => rfl
        | true =>
          rw [Nat.beq_eq] at hx
          subst hx
          rw [h2] at hb
          simp at hb
      simp only [aget, hji]
      exact h1
theorem aget_delB (l : List (Nat × Box)) : ∀ (K : List Nat) (k : Nat), aget (delB l K) k = if k ∈ K then none else aget l k
  | [], k => by simp [delB]
  | q :: K, k => by
    rw [delB, aget_adel, aget_delB l K k]
    by_cases h1 : k = q
    · simp [h1]
    · by_cases h2 : k ∈ K <;> simp [h1, h2]
theorem aget_putB (l : List (Nat × Box)) : ∀ (bs : List (Nat × Box)) (k : Nat), aget (putB l bs) k = match aget bs k with | some B => some B | none => aget l k
  | [], k => by simp [putB, aget]
  | (q, B) :: bs, k => by
    rw [putB, aget_aput, aget_putB l bs k]
    by_cases h : k = q
    · subst h; simp [aget]
    · have hb : Nat.beq q k = false := by rw [← Bool.not_eq_true, Nat.beq_eq]; exact fun e => h e.symm
      simp [aget, h, hb]

theorem toK_ok {K : List Nat} {σ : Nat → Option Value} {w : World} {bad bad' : Nat → Prop} : ∀ s v, V.isK s = true → CV σ w bad s v → CV (fun i => match K[i]? with | some k => σ k | none => none) w bad' (toK K s) v := by
  intro s v hs hv
  have hi : ∀ {k i : Nat}, idxK K 0 k = some i → (match K[i]? with | some k => σ k | none => none) = σ k := fun h => by
    have := (idxK_ok h).2
    rw [Nat.sub_zero] at this
    rw [this]
  cases s with
  | ptr k off =>
    cases hv with
    | data hd => cases hd
    | ptr b h =>
      simp only [toK]
      cases hx : idxK K 0 k with
      | none => exact .junk
      | some i => exact .ptr b ((hi hx).trans h)
  | row k off len cap =>
    cases hv with
    | data hd => cases hd
    | row b h =>
      simp only [toK]
      cases hx : idxK K 0 k with
      | none => exact .junk
      | some i => exact .row b ((hi hx).trans h)
  | vec k =>
    cases hv with
    | data hd => cases hd
    | vec v h =>
      simp only [toK]
      cases hx : idxK K 0 k with
      | none => exact .junk
      | some i => exact .vec v ((hi hx).trans h)
  | vptr k sz e off =>
    cases hv with
    | data hd => cases hd
    | vptr b n c h =>
      simp only [toK]
      cases hx : idxK K 0 k with
      | none => exact .junk
      | some i => exact .vptr b n c ((hi hx).trans h)
  | map k =>
    cases hv with
    | data hd => cases hd
    | map r h =>
      simp only [toK]
      cases hx : idxK K 0 k with
      | none => exact .junk
      | some i => exact .map r ((hi hx).trans h)
  | tail k sz lo =>
    cases hv with
    | data hd => cases hd
    | tail b n c h hlo =>
      simp only [toK]
      cases hx : idxK K 0 k with
      | none => exact .junk
      | some i => exact .tail b n c ((hi hx).trans h) hlo
  | _ => cases hs
theorem fromK_ok {K : List Nat} {key : Nat} {σ' σ2 : Nat → Option Value} {w : World} {bad bad' : Nat → Prop} (hσ : ∀ i, σ2 (keyK K key i) = σ' i) : ∀ s v, V.isK s = true → CV σ' w bad s v → CV σ2 w bad' (fromK K key s) v := by
  intro s v hs hv
  cases s with
  | ptr k off =>
    cases hv with
    | data hd => cases hd
    | ptr b h => exact .ptr b ((hσ _).trans h)
  | row k off len cap =>
    cases hv with
    | data hd => cases hd
    | row b h => exact .row b ((hσ _).trans h)
  | vec k =>
    cases hv with
    | data hd => cases hd
    | vec v h => exact .vec v ((hσ _).trans h)
  | vptr k sz e off =>
    cases hv with
    | data hd => cases hd
    | vptr b n c h => exact .vptr b n c ((hσ _).trans h)
  | map k =>
    cases hv with
    | data hd => cases hd
    | map r h => exact .map r ((hσ _).trans h)
  | tail k sz lo =>
    cases hv with
    | data hd => cases hd
    | tail b n c h hlo => exact .tail b n c ((hσ _).trans h) hlo
  | _ => cases hs

/-- What a callee that is handed the boxes 'K' begins with. -/
def ownE (E : Env) (σ : Nat → Option Value) (bx : List (Nat × Box)) (K : List Nat) (w : World) : Env :=
  { w0 := w, bad0 := fun x => badOf E σ bx x ∧ ¬ ∃ k, k ∈ K ∧ blkOf (σ k) = some x, wr := fun x => ∃ k, k ∈ K ∧ blkOf (σ k) = some x }
theorem own_mem {K : List Nat} {bxc : List (Nat × Box)} (h : Mem E σ S.bx w) (hsel : ∀ i B, aget bxc i = some B → ∃ k B0, K[i]? = some k ∧ aget S.bx k = some B0 ∧ B = Box.mapK (toK K) B0)
    (hnd : ∀ i j k : Nat, K[i]? = some k → K[j]? = some k → i = j) : Mem (ownE E σ S.bx K w) (fun i => match K[i]? with | some k => σ k | none => none) bxc w := by
  have hbadsub : ∀ b, badOf (ownE E σ S.bx K w) (fun i => match K[i]? with | some k => σ k | none => none) bxc b → badOf E σ S.bx b := by
    rintro b (⟨h1, _⟩ | ⟨i, B, hg, hb⟩)
    · exact h1
    · obtain ⟨k, B0, h1, h2, _⟩ := hsel i B hg
      simp only [h1] at hb
      exact .inr ⟨k, B0, h2, hb⟩
  refine ⟨fun i B hg => ?_, fun i B b hg hb => ?_, fun i i' B B' b hg hg' hb hb' => ?_, rfl, rfl, rfl, Nat.le_refl _, fun _ _ _ => rfl, ?_⟩
  · obtain ⟨k, B0, h1, h2, rfl⟩ := hsel i B hg
    exact (h.box k B0 h2).mapK (by simp only [h1]) (fun b _ hn => ⟨fun hb => hn (hbadsub b hb), rfl⟩) toK_ok
  · obtain ⟨k, B0, h1, h2, rfl⟩ := hsel i B hg
    simp only [h1] at hb
    have hk : ∃ k, k ∈ K ∧ blkOf (σ k) = some b := ⟨k, List.mem_of_getElem? h1, hb⟩
    exact ⟨(h.own k B0 b h2 hb).1, fun h3 => h3.2 hk, .inr hk⟩
  · obtain ⟨k, B0, h1, h2, rfl⟩ := hsel i B hg
    obtain ⟨k', B0', h1', h2', rfl⟩ := hsel i' B' hg'
    simp only [h1] at hb
    simp only [h1'] at hb'
    have := h.dist k k' B0 B0' b h2 h2' hb hb'
    subst this
    exact hnd i i' k h1 h1'
  · rintro x ⟨hx | ⟨k, B, hg, hkb⟩, _⟩
    · exact Nat.lt_of_lt_of_le (h.hbad x hx) h.size
    · exact (h.own k B x hg hkb).1

/-- What the caller has behind it. -/
theorem own_back {K : List Nat} {bs : List (Nat × Box)} {r : V} {v : Value} {σ' : Nat → Option Value} (h : Rel E σ S a w) (hK : ∀ k ∈ K, ∃ B, aget S.bx k = some B)
    (hF : ∀ j, σ (key + j * 1000000) = none) (hσ' : ∀ i, i < K.length → σ' i = (match K[i]? with | some k => σ k | none => none)) (hcr : CV σ' w' (badOf (ownE E σ S.bx K w) σ' bs) r v) (hm : Mem (ownE E σ S.bx K w) σ' bs w') :
    ∃ σ2, Rel E σ2 { S with bx := putB (delB S.bx K) (mapOwn K key bs) } a w' ∧ (∀ k, (∀ j, k ≠ key + j * 1000000) → σ2 k = σ k) ∧ CV σ2 w' (badOf E σ2 (putB (delB S.bx K) (mapOwn K key bs))) (V.mapK (fromK K key) r) v := by
  let σ2 : Nat → Option Value := fun k => match σ k with
    | some v => some v
    | none => if key ≤ k ∧ (k - key) % 1000000 = 0 then σ' (K.length + (k - key) / 1000000) else none
  have hext : ∀ k v, σ k = some v → σ2 k = some v := fun k v hk => by simp only [σ2, hk]
  have hother : ∀ k, (∀ j, k ≠ key + j * 1000000) → σ2 k = σ k := fun k hk => by
    simp only [σ2]
    cases hx : σ k with
    | some v => rfl
    | none =>
      simp only []
      rw [if_neg]
      rintro ⟨h1, h2⟩
      exact hk ((k - key) / 1000000) (by omega)
  have hnew : ∀ i, σ2 (keyK K key i) = σ' i := fun i => by
    unfold keyK
    cases hx : K[i]? with
    | some k =>
      have hi : i < K.length := (List.getElem?_eq_some_iff.1 hx).1
      obtain ⟨B, hB⟩ := hK k (List.mem_of_getElem? hx)
      obtain ⟨v, hv⟩ := (h.box k B hB).key
      rw [hσ' i hi, hx]
      simp only []
      rw [hext k v hv, hv]
    | none =>
      have hi : K.length ≤ i := List.getElem?_eq_none_iff.1 hx
      have hn := hF (i - K.length)
      simp only [σ2, hn]
      rw [if_pos (by omega)]
      congr 1
      omega
  have hget : ∀ k B, aget (putB (delB S.bx K) (mapOwn K key bs)) k = some B → (∃ i B1, aget bs i = some B1 ∧ k = keyK K key i ∧ B = Box.mapK (fromK K key) B1) ∨ (k ∉ K ∧ aget S.bx k = some B) := fun k B hg => by
    rw [aget_putB] at hg
    cases hx : aget (mapOwn K key bs) k with
    | some C =>
      rw [hx] at hg
      injection hg with hg; subst hg
      exact .inl (mapOwn_get hx)
    | none =>
      rw [hx] at hg
      simp only [aget_delB] at hg
      split at hg
      · cases hg
      · rename_i hn; exact .inr ⟨hn, hg⟩
  have hdistK : ∀ k B b, k ∉ K → aget S.bx k = some B → blkOf (σ k) = some b → ¬ ∃ k', k' ∈ K ∧ blkOf (σ k') = some b := by
    rintro k B b hn hg hb ⟨k', hk', hb'⟩
    obtain ⟨B', hB'⟩ := hK k' hk'
    have := h.dist k k' B B' b hg hB' hb hb'
    subst this
    exact hn hk'
  have hbad0K : ∀ b, E.bad0 b → ¬ ∃ k', k' ∈ K ∧ blkOf (σ k') = some b := by
    rintro b hb ⟨k', hk', hb'⟩
    obtain ⟨B', hB'⟩ := hK k' hk'
    exact (h.own k' B' b hB' hb').2.1 hb
  have hsame : ∀ k B, aget S.bx k = some B → σ2 k = σ k := fun k B hg => by
    obtain ⟨v, hv⟩ := (h.box k B hg).key
    rw [hext k v hv, hv]
  have hsub : ∀ b, badOf E σ2 (putB (delB S.bx K) (mapOwn K key bs)) b → badOf (ownE E σ S.bx K w) σ' bs b := by
    rintro b (hb | ⟨k, B, hg, hkb⟩)
    · exact .inl ⟨.inl hb, hbad0K b hb⟩
    · rcases hget k B hg with ⟨i, B1, h1, rfl, rfl⟩ | ⟨hn, h1⟩
      · rw [hnew] at hkb
        exact .inr ⟨i, B1, h1, hkb⟩
      · rw [hsame k B h1] at hkb
        exact .inl ⟨.inr ⟨k, B, h1, hkb⟩, hdistK k B b hn h1 hkb⟩
  have hkeep : ∀ b, b < w.heap.size → ¬ badOf E σ S.bx b → ¬ badOf E σ2 (putB (delB S.bx K) (mapOwn K key bs)) b ∧ w'.heap[b]? = w.heap[b]? := by
    intro b hb hn
    have hwr : ¬ (ownE E σ S.bx K w).wr b := by
      rintro ⟨k, hk, hkb⟩
      obtain ⟨B, hB⟩ := hK k hk
      exact hn (.inr ⟨k, B, hB, hkb⟩)
    refine ⟨fun h2 => ?_, hm.old b hb hwr⟩
    rcases hsub b h2 with h3 | ⟨i, B1, h3, h4⟩
    · exact hn h3.1
    · rcases (hm.own i B1 b h3 h4).2.2 with h5 | h5
      · have h5 : w.heap.size ≤ b := h5
        omega
      · exact hwr h5
  have hψ : ∀ s v, V.isK s = true → CV σ' w' (badOf (ownE E σ S.bx K w) σ' bs) s v → CV σ2 w' (badOf E σ2 (putB (delB S.bx K) (mapOwn K key bs))) (fromK K key s) v := fromK_ok hnew
  have hb2 : ∀ b, b < w'.heap.size → ¬ badOf (ownE E σ S.bx K w) σ' bs b → ¬ badOf E σ2 (putB (delB S.bx K) (mapOwn K key bs)) b ∧ w'.heap[b]? = w'.heap[b]? := fun b _ hn => ⟨fun h2 => hn (hsub b h2), rfl⟩
  have hsz : w.heap.size ≤ w'.heap.size := hm.size
  have hmem : Mem E σ2 (putB (delB S.bx K) (mapOwn K key bs)) w' := by
    refine ⟨fun k B hg => ?_, fun k B b hg hb => ?_, fun k k' B B' b hg hg' hb hb' => ?_, hm.os.trans h.os, hm.tape.trans h.tape, hm.output.trans h.output, Nat.le_trans h.size hsz, fun b hb hn => ?_, h.hbad⟩
    · rcases hget k B hg with ⟨i, B1, h1, rfl, rfl⟩ | ⟨hn, h1⟩
      · exact (hm.box i B1 h1).mapK (hnew i) hb2 hψ
      · refine (h.box k B h1).mono hext hkeep fun b hb => hm.old b (h.own k B b h1 hb).1 (hdistK k B b hn h1 hb)
    · rcases hget k B hg with ⟨i, B1, h1, rfl, rfl⟩ | ⟨hn, h1⟩
      · rw [hnew] at hb
        obtain ⟨h2, h3, h4⟩ := hm.own i B1 b h1 hb
        refine ⟨h2, fun h5 => h3 ⟨.inl h5, hbad0K b h5⟩, ?_⟩
        rcases h4 with h4 | ⟨k', hk', hb'⟩
        · exact .inl (Nat.le_trans h.size h4)
        · obtain ⟨B', hB'⟩ := hK k' hk'
          exact (h.own k' B' b hB' hb').2.2
      · rw [hsame k B h1] at hb
        obtain ⟨h2, h3⟩ := h.own k B b h1 hb
        exact ⟨Nat.lt_of_lt_of_le h2 hsz, h3⟩
    · have mixed : ∀ i B1 k B, aget bs i = some B1 → blkOf (σ' i) = some b → k ∉ K → aget S.bx k = some B → blkOf (σ k) = some b → False := by
        intro i B1 k B h1 h2 h3 h4 h5
        exact (hm.own i B1 b h1 h2).2.1 ⟨.inr ⟨k, B, h4, h5⟩, hdistK k B b h3 h4 h5⟩
      rcases hget k B hg with ⟨i, B1, h1, rfl, rfl⟩ | ⟨hn, h1⟩ <;> rcases hget k' B' hg' with ⟨i', B1', h1', rfl, rfl⟩ | ⟨hn', h1'⟩
      · rw [hnew] at hb hb'
        rw [hm.dist i i' B1 B1' b h1 h1' hb hb']
      · rw [hnew] at hb
        rw [hsame k' B' h1'] at hb'
        exact (mixed i B1 k' B' h1 hb hn' h1' hb').elim
      · rw [hnew] at hb'
        rw [hsame k B h1] at hb
        exact (mixed i' B1' k B h1' hb' hn h1 hb).elim
      · rw [hsame k B h1] at hb
        rw [hsame k' B' h1'] at hb'
        exact h.dist k k' B B' b h1 h1' hb hb'
    · have hlt : b < w.heap.size := Nat.lt_of_lt_of_le hb h.size
      refine (hm.old b hlt ?_).trans (h.old b hb hn)
      rintro ⟨k', hk', hb'⟩
      obtain ⟨B', hB'⟩ := hK k' hk'
      rcases (h.own k' B' b hB' hb').2.2 with h5 | h5
      · exact absurd hb (Nat.not_lt.2 h5)
      · exact hn h5
  refine ⟨σ2, ⟨hmem, h.dfs, h.nt, fun t s ht => ?_⟩, hother, hcr.mapK hb2 hψ⟩
  obtain ⟨x, h1, h2⟩ := h.fr t s ht
  exact ⟨x, h1, h2.mono hext hkeep⟩

theorem exec0_ok {o : Oper} {ans : An} {e : Eff} {obs : List Prop} {K : Act → World → Prop} {Q : Exit → Act → World → Prop} (he : exec0 P key ans o.op V0 = some (e, obs)) (ho : AllP obs) (hs : Sub V0 S) (h : Rel E σ S a w)
    (ht : ∀ t, o.dst = some t → t < S.nt) (hF : ∀ j, σ (key + j * 1000000) = none) (hK : Onward E σ (e.app S key o.dst) key K) : o.wp P a w K Q := by
  have hf := freshK hF
  have plain : ∀ {op : Op} {e : Eff} {obs : List Prop}, o.op = op → (match evR P V0 op ans.toAns with | some (s, obs) => some (Eff.val s, obs) | none => none) = some (e, obs) → AllP obs → Onward E σ (e.app S key o.dst) key K → o.wp P a w K Q := by
    intro op e obs hop he ho hK
    split at he
    · rename_i s obs' hr
      injection he with he; injection he with h1 h2; subst h1 h2
      rw [← hop] at hr
      obtain ⟨v, hrun, hc⟩ := evR_ok hr ho hs h
      exact wp_of_good hrun (Good.val h ht hc) hK
    · cases he
  unfold exec0 at he
  split at he
  · rename_i t hop
    split at he
    · rename_i e' hq
      injection he with he; injection he with h1 h2; subst h1
      obtain ⟨v, w', hrun, hg⟩ := good_alloc (a := a) hq h ht hf
      refine wp_of_good ?_ hg hK
      unfold execOp; simp only [hop, Sem.run_bind, hrun, Result.andThen_ok]; rfl
    · cases he
  · rename_i t x hop
    split at he
    · rename_i e' hq
      injection he with he; injection he with h1 h2; subst h1
      obtain ⟨v, w', hrun, hg⟩ := good_box (P := P) hq hs h ht hf
      refine wp_of_good ?_ hg hK
      unfold execOp; simp only [hop, Sem.run_bind, hrun, Result.andThen_ok]; rfl
    · cases he
  · rename_i t ps hop
    split at he
    · rename_i s hq
      injection he with he; injection he with h1 h2; subst h1
      obtain ⟨v, hrun, hc⟩ := run_evBuild hq hs h
      refine wp_of_good ?_ (Good.val h ht hc) hK
      unfold execOp; simp only [hop, Sem.run_bind, hrun, Result.andThen_ok]; rfl
    · cases he
  · rename_i t n ps hop
    split at he
    · rename_i e' hq
      injection he with he; injection he with h1 h2; subst h1
      obtain ⟨v, w', hrun, hg⟩ := good_buildSlice hq hs h ht hf
      refine wp_of_good ?_ hg hK
      unfold execOp; simp only [hop, Sem.run_bind, hrun, Result.andThen_ok]; rfl
    · cases he
  · rename_i t x v hop
    obtain ⟨w', hrun, hg⟩ := good_store (key := key) he ho hs h ht
    refine wp_of_good ?_ hg hK
    unfold execOp; simp only [hop, Sem.run_bind, hrun, Result.andThen_ok]; rfl
  · rename_i t l c hop
    obtain ⟨v, w', hrun, hg⟩ := good_makeSlice he ho hs h ht hf
    refine wp_of_good ?_ hg hK
    unfold execOp; simp only [hop, Sem.run_bind, hrun, Result.andThen_ok]; rfl
  · rename_i t r hop
    split at he
    · rename_i e' hq
      injection he with he; injection he with h1 h2; subst h1
      obtain ⟨v, w', hrun, hg⟩ := good_makeMap hq h ht hf
      refine wp_of_good ?_ hg hK
      unfold execOp; simp only [hop, Sem.run_bind, hrun, Result.andThen_ok]; rfl
    · cases he
  · rename_i t m k c hop
    split at he
    · rename_i s hq
      obtain ⟨v, hrun, hc⟩ := run_evLookup hq hs h
      split at he
      · injection he with he; injection he with h1 h2; subst h1; subst h2
        obtain rfl := ho.1
        refine wp_of_good ?_ (Good.val h ht hc) hK
        unfold execOp; simp only [hop, Sem.run_bind, hrun, Result.andThen_ok]; rfl
      · injection he with he; injection he with h1 h2; subst h1
        refine wp_of_good ?_ (Good.val h ht hc) hK
        unfold execOp; simp only [hop, Sem.run_bind, hrun, Result.andThen_ok]; rfl
    · cases he
  · rename_i t m k x hop
    split at he
    · rename_i e' hq
      injection he with he; injection he with h1 h2; subst h1
      obtain ⟨w', hrun, hg⟩ := good_mapUpdate (key := key) hq hs h ht
      refine wp_of_good ?_ hg hK
      unfold execOp; simp only [hop, Sem.run_bind, hrun, Result.andThen_ok]; rfl
    · cases he
  · rename_i t m k x hop
    split at he
    · rename_i e' hq
      injection he with he; injection he with h1 h2; subst h1
      obtain ⟨w', hrun, hg⟩ := good_mapUpdate (key := key) hq hs h ht
      refine wp_of_good ?_ hg hK
      unfold execOp; simp only [hop, Sem.run_bind, hrun, Result.andThen_ok]; rfl
    · cases he
  · rename_i src dst x hop
    split at he
    · rename_i s obs' hq
      injection he with he; injection he with h1 h2; subst h1 h2
      obtain ⟨v, hrun, hc⟩ := run_evBytes hq ho hs h
      refine wp_of_good ?_ (Good.val h ht hc) hK
      unfold execOp; simp only [hop, Sem.run_bind, hrun, Result.andThen_ok]; rfl
    · exact plain hop he ho hK
  · rename_i c hop
    split at he
    · rename_i f hc
      split at he
      · rename_i fv args hfv hargs
        unfold evCall at he
        split at he
        · rename_i g caps
          split at he
          · rename_i K1 bs r
            unfold evOwn at he
            split at he
            · rename_i bxc hnd hsel
              injection he with he; injection he with e1 e2; subst e1 e2
              obtain ⟨hent, hspec⟩ := ho.1
              have hall : ∀ k ∈ K1, ∃ B, aget S.bx k = some B := fun k hk => by
                obtain ⟨B, hB⟩ := selK_all hsel k hk
                exact ⟨B, hs.bx _ _ hB⟩
              have hmc := own_mem (bxc := bxc) (K := K1) h.toMem (fun i B hg => by
                obtain ⟨_, k, B0, h1, h2, h3⟩ := selK_get hsel i B hg
                exact ⟨k, B0, by simpa using h1, hs.bx _ _ h2, h3⟩) (nodupN_ok hnd)
              refine wp_call hop hc hfv hargs hs h fun vals hsz hvals => ⟨hent, ?_⟩
              refine (hspec (ownE E σ S.bx K1 w) _ vals hmc (fun k hk => by
                show (match K1[k]? with | some k => σ k | none => none) = none
                rw [List.getElem?_eq_none_iff.2 hk]) (hsz.trans (mapL_get _ _).1.symm) (fun j s hj => ?_)).mono ?_
              · obtain ⟨s0, h1, rfl⟩ := (mapL_get (toK K1) (args ++ caps)).2 j s hj
                obtain ⟨v, hv, hcv⟩ := hvals j s0 h1
                refine ⟨v, hv, hcv.mapK (fun b _ hn => ⟨?_, rfl⟩) toK_ok⟩
                rintro (⟨h2, _⟩ | ⟨i, B, hg, hb⟩)
                · exact hn h2
                · obtain ⟨_, k, B0, h3, h4, _⟩ := selK_get hsel i B hg
                  rw [Nat.sub_zero] at h3
                  simp only [h3] at hb
                  exact hn (.inr ⟨k, B0, hs.bx _ _ h4, hb⟩)
              · rintro e w' ⟨v, σ', rfl, hσ', hcr, hm'⟩
                refine ⟨v, rfl, ?_⟩
                obtain ⟨σ2, g1, g2, g3⟩ := own_back (key := key) h hall hF hσ' hcr hm'
                exact hK σ2 _ _ (g1.slot ht g3) g2
            · cases he
          rename_i hne
          clear hne
          split at he
          · rename_i hlt
            have hcv : ∀ (vals : Array Value), (∀ (j : Nat) (s : V), (args ++ caps)[j]? = some s → ∃ v, vals[j]? = some v ∧ CV σ w (badOf E σ S.bx) s v) →
                ∀ (j : Nat) (s : V), (args ++ caps)[j]? = some s → ∃ v, vals[j]? = some v ∧ CV (fun _ => none) w (badOf { w0 := w, bad0 := badOf E σ S.bx, wr := fun _ => False } (fun _ => none) []) s v := by
              intro vals hvals j s hj
              obtain ⟨v, hv, hcv⟩ := hvals j s hj
              refine ⟨v, hv, ?_⟩
              refine (hcv.restrict (n := 0) (σ' := fun _ => none) (fun k v hk _ => absurd hk (Nat.not_lt_zero k)) (ltL_get hlt j s hj)).mono (fun _ _ h => h) fun b _ hn => ⟨?_, rfl⟩
              rintro (hb | ⟨k, B, hg, _⟩)
              · exact hn hb
              · simp [aget] at hg
            have hmc := mem_callee h
            split at he
            · rename_i r
              split at he
              · rename_i hr
                injection he with he; injection he with h1 h2; subst h1 h2
                obtain ⟨hent, hspec⟩ := ho.1
                refine wp_call hop hc hfv hargs hs h fun vals hsz hvals => ⟨hent, ?_⟩
                refine (hspec { w0 := w, bad0 := badOf E σ S.bx, wr := fun _ => False } (fun _ => none) vals hmc (fun _ _ => rfl) hsz (hcv vals hvals)).mono ?_
                rintro e w' ⟨v, σ', rfl, _, hcr, hm⟩
                refine ⟨v, rfl, ?_⟩
                have hgr := grownBy_of_mem (fun _ h => h) hm
                have hcr' : CV σ w' (badOf E σ S.bx) r v := (hcr.restrict (n := 0) (σ' := σ) (fun k v hk _ => absurd hk (Nat.not_lt_zero k)) hr).mono (fun _ _ h => h) fun b _ hn => ⟨fun hb => hn (.inl hb), rfl⟩
                exact hK σ _ _ ((h.grown hgr).slot ht hcr') (fun _ _ => rfl)
              · cases he
            · rename_i ty sz n q
              injection he with he; injection he with h1 h2; subst h1 h2
              obtain ⟨hent, hspec⟩ := ho.1
              refine wp_call hop hc hfv hargs hs h fun vals hsz hvals => ⟨hent, ?_⟩
              refine (hspec { w0 := w, bad0 := badOf E σ S.bx, wr := fun _ => False } (fun _ => none) vals hmc (fun _ _ => rfl) hsz (hcv vals hvals)).mono ?_
              rintro e w' ⟨v, σ', rfl, _, hcr, hm⟩
              refine ⟨v, rfl, ?_⟩
              have hgr := grownBy_of_mem (fun _ h => h) hm
              cases hcr with
              | data hd => cases hd
              | vec v hv =>
                have hbox := hm.box 0 (.vec ty sz n q) rfl
                cases hbox with
                | vec v0 xs hk0 hown hl hcc =>
                  rw [hk0] at hv
                  injection hv with hv; subst hv
                  obtain ⟨n', v', w'', σ'', hr1, hn, _, hkk, hrel⟩ := Good.new (dst := o.dst) (B := .vec ty sz n q) (s := .vec key) (v := v0) (v1 := v0) h ht hf hgr (fun b hb => by
                      have hb' : blkOf (σ' 0) = some b := by rw [hk0]; exact hb
                      have h3 := hm.own 0 (.vec ty sz n q) b rfl hb'
                      refine ⟨?_, h3.1⟩
                      rcases h3.2.2 with h4 | h4
                      · exact h4
                      · exact h4.elim) (fun hmm => by
                      refine .vec v0 xs (by simp) hown hl fun i j s hi hs' => ?_
                      obtain ⟨x, hx, hcd⟩ := hcc i j s hi hs'
                      refine ⟨x, hx, hcd.mono fun b hbl hn => ⟨?_, rfl⟩⟩
                      rintro (hb | ⟨k, B, hg, hkb⟩)
                      · exact hn (.inl (.inl hb))
                      · rw [aget_aput] at hg
                        by_cases hkk : k = key
                        · subst hkk
                          simp only [if_true] at hkb
                          exact hn (.inr ⟨0, .vec ty sz n q, rfl, by rw [hk0]; exact hkb⟩)
                        · rw [if_neg hkk] at hg
                          simp only [if_neg hkk] at hkb
                          exact hn (.inl (.inr ⟨k, B, hg, hkb⟩))) (.vec v0 (by simp))
                  injection hr1 with hr1 hr2
                  subst hr2
                  rcases hn with hn | ⟨hn, _⟩
                  · rw [← hr1] at hn
                    injection hn with hn; subst hn
                    exact hK σ'' _ _ hrel (weakK hkk)
                  · rw [← hr1] at hn; cases hn
            · cases he
          · split at he
            · rename_i n1 h1 r
              split at he
              · rename_i q args' hma
                split at he
                · rename_i n0 h0 hq hr
                  injection he with he; injection he with e1 e2; subst e1 e2
                  obtain ⟨hent, hspec⟩ := ho.1
                  obtain ⟨hlen, hget⟩ := mapArg_ok hma
                  have hq := hs.bx _ _ hq
                  cases h.box q _ hq with
                  | mapB b hk hm =>
                    have hbk : blkOf (σ q) = some b := by rw [hk]; rfl
                    have hown := h.own q _ b hq hbk
                    have hbb : badOf E σ S.bx b := .inr ⟨q, _, hq, hbk⟩
                    have hmc : Mem { w0 := w, bad0 := fun x => badOf E σ S.bx x ∧ x ≠ b, wr := fun x => x = b } (fun k => if k = 0 then some (.map (some b)) else none) [((0 : Nat), Box.mapB n0 h0)] w := by
                      have hone : ∀ k B, aget [((0 : Nat), Box.mapB n0 h0)] k = some B → k = 0 ∧ B = .mapB n0 h0 := by
                        intro k B hg
                        simp only [aget] at hg
                        split at hg
                        · rename_i hb; rw [Nat.beq_eq] at hb; injection hg with hg; exact ⟨hb.symm, hg.symm⟩
                        · cases hg
                      refine ⟨fun k B hg => ?_, fun k B x hg hx => ?_, fun k k' B B' x hg hg' _ _ => ?_, rfl, rfl, rfl, Nat.le_refl _, fun _ _ _ => rfl, ?_⟩
                      · obtain ⟨rfl, rfl⟩ := hone k B hg
                        exact .mapB b rfl hm
                      · obtain ⟨rfl, rfl⟩ := hone k B hg
                        injection hx with hx; subst hx
                        exact ⟨hown.1, fun h3 => h3.2 rfl, .inr rfl⟩
                      · rw [(hone k B hg).1, (hone k' B' hg').1]
                      · rintro x ⟨hx | ⟨k, B, hg, hkb⟩, _⟩
                        · exact Nat.lt_of_lt_of_le (h.hbad x hx) h.size
                        · exact (h.own k B x hg hkb).1
                    refine wp_call hop hc hfv hargs hs h fun vals hsz hvals => ⟨hent, ?_⟩
                    refine (hspec _ _ vals hmc (fun k hk1 => by show (if k = 0 then _ else _) = _; rw [if_neg (by omega)]) (hsz.trans hlen.symm) (fun j s' hj => ?_)).mono ?_
                    · obtain ⟨s, hs1, hs2⟩ := hget j s' hj
                      obtain ⟨v, hv, hcv⟩ := hvals j s hs1
                      refine ⟨v, hv, ?_⟩
                      have hbm : ∀ x, x < w.heap.size → ¬ badOf E σ S.bx x → ¬ badOf { w0 := w, bad0 := fun x => badOf E σ S.bx x ∧ x ≠ b, wr := fun x => x = b } (fun k => if k = 0 then some (.map (some b)) else none) [((0 : Nat), Box.mapB n0 h0)] x ∧ w.heap[x]? = w.heap[x]? := by
                        intro x _ hn
                        refine ⟨?_, rfl⟩
                        rintro (⟨h3, _⟩ | ⟨k, B, hg, hkb⟩)
                        · exact hn h3
                        · simp only at hkb
                          split at hkb
                          · injection hkb with hkb; subst hkb; exact hn hbb
                          · cases hkb
                      rcases hs2 with ⟨rfl, rfl⟩ | ⟨rfl, hlt0⟩
                      · cases hcv with
                        | data hd => cases hd
                        | map r1 hr1 =>
                          rw [hk] at hr1; injection hr1 with hr1; injection hr1 with hr1; injection hr1 with hr1; subst hr1
                          exact .map _ (by simp)
                      · exact (hcv.restrict (n := 0) (fun k v hk _ => absurd hk (Nat.not_lt_zero k)) hlt0).mono (fun _ _ h => h) hbm
                    · rintro e w' ⟨v, σ', rfl, hσ', hcr, hm'⟩
                      refine ⟨v, rfl, ?_⟩
                      have hk0 : σ' 0 = some (.map (some b)) := hσ' 0 (by omega)
                      have hgr : w.grownBy w' (some b) := ⟨hm'.os, hm'.tape, hm'.output, hm'.size, fun k hk hne => hm'.old k hk (fun e => hne (by rw [e]))⟩
                      have hnew : IntMap w' b n1 fun i => (h1 i).map Value.bool := by
                        cases hm'.box 0 (.mapB n1 h1) rfl with
                        | mapB b1 hk1 hm1 => rw [hk0] at hk1; injection hk1 with hk1; injection hk1 with hk1; injection hk1 with hk1; subst hk1; exact hm1
                      have hrel := h.write (B1 := .mapB n1 h1) hq hbk hgr (fun _ => .mapB b hk hnew)
                      have hcr' : CV σ w' (badOf E σ (aput S.bx q (.mapB n1 h1))) r v := (hcr.restrict (n := 0) (σ' := σ) (fun k v hk _ => absurd hk (Nat.not_lt_zero k)) hr).mono (fun _ _ h => h) fun x _ hn => ⟨fun hb => by
                        by_cases hxb : x = b
                        · subst hxb; exact hn (.inr ⟨0, _, rfl, by rw [hk0]; rfl⟩)
                        · refine hn (.inl ⟨?_, hxb⟩)
                          rcases hb with hb | ⟨k, B, hg, hkb⟩
                          · exact .inl hb
                          · rw [aget_aput] at hg
                            by_cases hkq : k = q
                            · subst hkq; rw [hbk] at hkb; injection hkb with hkb; exact absurd hkb.symm hxb
                            · rw [if_neg hkq] at hg; exact .inr ⟨k, B, hg, hkb⟩, rfl⟩
                      exact hK σ _ _ (hrel.slot ht hcr') (fun _ _ => rfl)
                · cases he
              · cases he
            · cases he
        · cases he
      · cases he
    · rename_i hc
      split at he
      · rename_i x y t t' hxs hts
        split at he
        · rename_i s r hb hx hy
          rw [Nat.beq_eq] at hb; subst hb
          obtain ⟨v, w', hrun, hg⟩ := good_append (ty := o.type) he ho hs h ht hf (evo_ok hs h hx) (evo_ok hs h hy)
          refine wp_of_good ?_ hg hK
          have hargs : c.args.map a.eval = #[a.eval x, a.eval y] := by
            rw [← Array.toArray_toList (xs := c.args), hxs]; simp
          have htys : c.argTypes = #[t, t] := by rw [← Array.toArray_toList (xs := c.argTypes), hts]
          unfold execOp
          simp only [hop, resolve, hc, Sem.run_bind, Sem.run_pure, Result.andThen_ok, invoke, builtin, hargs, htys, hrun]
        · cases he
      · cases he
    · rename_i hc
      split at he
      · rename_i x t hxs hts
        obtain ⟨w', hrun, hg⟩ := good_clear (key := key) (dst := o.dst) (ty := o.type) he hs h ht
        refine wp_of_good ?_ hg hK
        have hargs : c.args.map a.eval = #[a.eval x] := by
          rw [← Array.toArray_toList (xs := c.args), hxs]; simp
        have htys : c.argTypes = #[t] := by rw [← Array.toArray_toList (xs := c.argTypes), hts]
        unfold execOp
        simp only [hop, resolve, hc, Sem.run_bind, Sem.run_pure, Result.andThen_ok, invoke, builtin, hargs, htys, hrun]
      · cases he
    · exact plain hop he ho hK
    · cases he
  · rename_i t x lo hi mx hop
    split at he
    · rename_i r hq
      injection he with he; subst he
      obtain ⟨v, w', hrun, hg⟩ := good_head hq ho hs h ht hf
      refine wp_of_good ?_ hg hK
      unfold execOp
      simp only [hop, Sem.run_bind, hrun, Result.andThen_ok]; rfl
    · exact plain hop he ho hK
  · exact plain rfl he ho hK

theorem exec1_ok {o : Oper} {ans : An} {e : Eff} {obs : List Prop} {K : Act → World → Prop} {Q : Exit → Act → World → Prop} (he : exec1 P key ans o.op V0 = some (e, obs)) (ho : AllP obs) (hs : Sub V0 S) (h : Rel E σ S a w)
    (ht : ∀ t, o.dst = some t → t < S.nt) (hF : ∀ j, σ (key + j * 1000000) = none) (hK : Onward E σ (e.app S key o.dst) key K) : o.wp P a w K Q := by
  unfold exec1 at he
  split at he
  · rename_i b obs' h0
    split at he
    · rename_i β
      injection he with he; injection he with h1 h2; subst h1 h2
      obtain ⟨hb, ho'⟩ := ho
      subst hb
      exact exec0_ok h0 ho' hs h ht hF fun σ' a' w' hr hk => hK σ' a' w' hr.retag hk
    · injection he with he; injection he with h1 h2; subst h1 h2
      exact exec0_ok h0 ho hs h ht hF hK
  · exact exec0_ok he ho hs h ht hF hK
end
end Go.Hb
