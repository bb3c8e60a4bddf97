/-
  THE SYMBOLIC LAYER, PART G: the operations of part F are right.
-/
import Derived.Test.YtfcdfbafgmegfaaSyF
namespace Go.Hb
open Go.RowKit

def evAlloc (P : Program) (key : Nat) (t : TypeId) : Option Eff :=
  match zeroL P t with
  | some l => some (.new (.cells t l) (.ptr key 0))
  | none => none

def evBox (S : St) (key : Nat) (t : TypeId) (x : Operand) : Option Eff :=
  match evo S.fr x with
  | some s => match cellsOf S.bx s with
    | some l => some (.new (.cells t l) (.ptr key 0))
    | none => none
  | none => none

def evMakeSlice (P : Program) (S : St) (key : Nat) (t : TypeId) (l c : Operand) : Option (Eff × List Prop) :=
  match evo S.fr l, evo S.fr c, P.underlying t with
  | some (.int _ x), some (.int _ y), some (.slice e) => match P.info? e, szT P e, zeroL P e with
    | some i, some sz, some z => match Nat.beq z.length sz && allD z with
      | true => some (.new (.vec e sz x.toNat fun _ => z) (.vec key), [0 ≤ x ∧ y = x, i.bytes * x.toNat ≤ 281474976710656 ∧ x.toNat ≤ maxLen])
      | false => none
    | _, _, _ => none
  | _, _, _ => none

def evMakeMap (P : Program) (key : Nat) (t : TypeId) (r : Option Operand) : Option Eff :=
  match r with
  | some _ => none
  | none => match P.underlying t with
    | some (.map _ e) => match P.underlying e with
      | some .bool => some (.new (.mapB 0 fun _ => none) (.map key))
      | some (.int .i64) => some (.new (.mapI 0 fun _ => none) (.map key))
      | some (.func _ _ _) => some (.new (.mapF 0 fun _ => none) (.map key))
      | _ => none
    | _ => none

/-- The model's run of an operation ends where 'Eff.app' says. -/
def Good (E : Env) (σ : Nat → Option Value) (S : St) (key : Nat) (a : Act) (r : Result Next) (dst : Option Tmp) (e : Eff) : Prop :=
  ∃ n v w' σ', r = .ok n w' ∧ (n = .value v ∨ (n = .skip ∧ v = undef)) ∧ (∀ k x, σ k = some x → σ' k = some x) ∧ (∀ k, k ≠ key → σ' k = σ k) ∧ Rel E σ' (e.app S key dst) (a.put dst v) w'

section
variable {P : Program} {E : Env} {σ σ' : Nat → Option Value} {S V0 : St} {a : Act} {w w' : World} {bad : Nat → Prop} {key : Nat} {dst : Option Tmp} {r : Result Next}

theorem Good.val {s : V} {v : Value} (h : Rel E σ S a w) (ht : ∀ t, dst = some t → t < S.nt) (hc : CV σ w (badOf E σ S.bx) s v) : Good E σ S key a (.ok (.value v) w) dst (.val s) :=
  ⟨_, v, w, σ, rfl, .inl rfl, fun _ _ h => h, fun _ _ => rfl, h.slot ht hc⟩

theorem Good.new {B : Box} {s : V} {v v1 : Value} (h : Rel E σ S a w) (ht : ∀ t, dst = some t → t < S.nt) (hf : σ key = none) (g : w.grownBy w' none)
    (hblk : ∀ b, blkOf (some v1) = some b → w.heap.size ≤ b ∧ b < w'.heap.size)
    (hB : (∀ b, b < w.heap.size → ¬ badOf E σ S.bx b → ¬ badOf E (fun k => if k = key then some v1 else σ k) (aput S.bx key B) b ∧ w'.heap[b]? = w.heap[b]?) →
      BRel (fun k => if k = key then some v1 else σ k) w' (badOf E (fun k => if k = key then some v1 else σ k) (aput S.bx key B)) key B)
    (hs : CV (fun k => if k = key then some v1 else σ k) w' (badOf E (fun k => if k = key then some v1 else σ k) (aput S.bx key B)) s v) : Good E σ S key a (.ok (.value v) w') dst (.new B s) := by
  have h1 := h.add hf g hblk hB
  refine ⟨_, v, w', _, rfl, .inl rfl, fun k x hx => ?_, fun k hk => ?_, h1.slot ht hs⟩
  · show (if k = key then some v1 else σ k) = some x
    rw [if_neg (fun e => by rw [e, hf] at hx; cases hx)]; exact hx
  · show (if k = key then some v1 else σ k) = σ k
    rw [if_neg hk]

theorem fresh_mono (hf : σ key = none) (v1 : Value) : ∀ k v, σ k = some v → (fun k => if k = key then some v1 else σ k) k = some v := by
  intro k v hv
  show (if k = key then some v1 else σ k) = some v
  rw [if_neg (fun e => by rw [e, hf] at hv; cases hv)]; exact hv

/-- A new variable. -/
theorem Good.newVar {t : TypeId} {l : List V} {cs : Array Value} (h : Rel E σ S a w) (ht : ∀ t, dst = some t → t < S.nt) (hf : σ key = none) (hr : Row σ w (badOf E σ S.bx) l cs) (s : V) (v : Value)
    (hs : ∀ (σ' : Nat → Option Value) w' bad', σ' key = some (.pointer (some ⟨w.heap.size, 0, none⟩)) → CV σ' w' bad' s v) :
    Good E σ S key a (.ok (.value v) (w.alloc (.cells cs t))) dst (.new (.cells t l) s) := by
  refine Good.new (v1 := .pointer (some ⟨w.heap.size, 0, none⟩)) h ht hf (World.grownBy_alloc w _ none) (fun b hb => ?_) (fun hm => ?_) ?_
  · simp [blkOf] at hb; subst hb; exact ⟨Nat.le_refl _, by simp⟩
  · have h2 := hr.mono (fresh_mono hf (.pointer (some ⟨w.heap.size, 0, none⟩))) hm
    refine .cells w.heap.size cs (by simp) (heap_alloc_new w _) h2.1 h2.2
  · exact hs _ _ _ (by simp)

theorem run_newVar (t : TypeId) (v : Value) (w : World) : (newVar t v).run P w = .ok ⟨w.heap.size, 0, none⟩ (w.alloc (.cells v.cells t)) := rfl

theorem good_alloc {t : TypeId} {e : Eff} (he : evAlloc P key t = some e) (h : Rel E σ S a w) (ht : ∀ t, dst = some t → t < S.nt) (hf : σ key = none) :
    ∃ v w', (Instr.alloc t true (.tuple #[])).run P w = .ok v w' ∧ Good E σ S key a (.ok (.value v) w') dst e := by
  unfold evAlloc at he
  split at he
  · rename_i l hz
    injection he with he; subst he
    obtain ⟨i, z, hi, hz, hr⟩ := zeroL_ok (σ := σ) hz w (badOf E σ S.bx)
    refine ⟨_, _, ?_, Good.newVar (t := t) h ht hf hr (.ptr key 0) (.pointer (some ⟨w.heap.size, 0, none⟩)) fun σ' w' bad' hk => .ptr _ hk⟩
    simp [Instr.alloc, run_zeroValue hi hz, run_newVar]
  · cases he

theorem good_box {t : TypeId} {x : Operand} {e : Eff} (he : evBox V0 key t x = some e) (hs : Sub V0 S) (h : Rel E σ S a w) (ht : ∀ t, dst = some t → t < S.nt) (hf : σ key = none) :
    ∃ v w', (Instr.box t (a.eval x)).run P w = .ok v w' ∧ Good E σ S key a (.ok (.value v) w') dst e := by
  unfold evBox at he
  split at he
  · rename_i s hx
    split at he
    · rename_i l hc
      injection he with he; subst he
      have hr : Row σ w (badOf E σ S.bx) l (a.eval x).cells := cellsOf_ok hs h hc (evo_ok hs h hx)
      refine ⟨_, _, ?_, Good.newVar (t := t) h ht hf hr (.ptr key 0) (.pointer (some ⟨w.heap.size, 0, none⟩)) fun σ' w' bad' hk => .ptr _ hk⟩
      simp [Instr.box, run_newVar]
    · cases he
  · cases he

theorem rep_row {l : List V} {z : Value} (hz : Row σ w bad l z.cells) : ∀ (n : Nat), Row σ w bad (rep n l) ((Array.range (n * z.cells.size)).map (z.cells[· % z.cells.size]!)) := by
  intro n
  induction n with
  | zero => refine ⟨by simp [rep], fun j r hj => by simp [rep] at hj⟩
  | succ n ih =>
    obtain ⟨h1, h2⟩ := ih
    refine ⟨by simp at h1; simp [rep, ← h1, hz.1, Nat.add_mul]; omega, fun j r hj => ?_⟩
    simp only [rep] at hj
    rw [List.getElem?_append] at hj
    by_cases hjl : j < l.length
    · rw [if_pos hjl] at hj
      obtain ⟨u, hu, h3⟩ := hz.2 j r hj
      refine ⟨u, ?_, h3⟩
      have hjz : j < z.cells.size := by rw [hz.1]; exact hjl
      have : j < (n + 1) * z.cells.size := by rw [Nat.add_mul]; omega
      simp [this, Nat.mod_eq_of_lt hjz]
      rw [getElem!_pos z.cells j hjz]
      rw [Array.getElem?_eq_getElem hjz] at hu
      simpa using hu
    · rw [if_neg hjl] at hj
      obtain ⟨u, hu, h3⟩ := h2 _ r hj
      refine ⟨u, ?_, h3⟩
      have hlt := (Array.getElem?_eq_some_iff.1 hu).1
      simp at hlt
      have hsz : z.cells.size = l.length := hz.1
      have : j < (n + 1) * z.cells.size := by rw [Nat.add_mul]; omega
      rw [← hu]
      have hj2 : j - l.length < n * z.cells.size := hlt
      have hmod : j % z.cells.size = (j - l.length) % z.cells.size := by
        rw [← hsz]; rw [Nat.mod_eq_sub_mod (by omega)]
      simp [this, hj2, hmod]

theorem placesL_ok (w : World) : ∀ {fs : List Field} {pl : List (Nat × Nat)}, placesL P fs = some pl → (fs.mapM fun f => do pure (f.offset, ← sizeOf f.type) : Sem (List (Nat × Nat))).run P w = .ok pl w
  | [], pl, h => by simp [placesL] at h; subst h; rfl
  | f :: fs, pl, h => by
    unfold placesL at h
    split at h
    · rename_i sz hsz
      split at h
      · rename_i r hr
        injection h with h; subst h
        have ih := placesL_ok w hr
        simp only [List.mapM_cons, Sem.run_bind, run_sizeOf hsz, Result.andThen_ok, Sem.run_pure, ih]
      · cases h
    · cases h

theorem run_evBuild {t : TypeId} {parts : Array (Nat × Operand)} {s : V} (he : evBuild P V0 t parts = some s) (hs : Sub V0 S) (h : Rel E σ S a w) :
    ∃ v, (Instr.build t (parts.map fun (i, x) => (i, a.eval x))).run P w = .ok v w ∧ CV σ w (badOf E σ S.bx) s v := by
  unfold evBuild at he
  split at he
  · rename_i z ps hz hp
    obtain ⟨i, zv, hi, hzv, hr⟩ := zeroL_ok (σ := σ) hz w (badOf E σ S.bx)
    obtain ⟨h1, h2⟩ := evParts_ok hs h hp
    have hq : (parts.map fun (i, x) => (i, a.eval x)).toList = parts.toList.map fun (p : Nat × Operand) => (p.1, a.eval p.2) := by simp
    split at he
    · rename_i fs ht
      split at he
      · rename_i pl hpl
        split at he
        · rename_i l hl
          injection he with he; subst he
          obtain ⟨ds, h3, h4⟩ := fillV_ok hl hr (qs := parts.toList.map fun (p : Nat × Operand) => (p.1, a.eval p.2)) (by simpa using h1) h2
          refine ⟨.agg ds, ?_, h4.agg⟩
          have hmap : (fs.mapM fun f => do pure (f.offset, ← sizeOf f.type) : Sem (Array (Nat × Nat))).run P w = .ok pl.toArray w := by
            have := placesL_ok w hpl
            rw [← Array.toArray_toList (xs := fs), List.mapM_toArray, map_eq_pure_bind, Sem.run_bind, this]
            rfl
          unfold Instr.build
          simp only [Sem.run_bind, run_zeroValue hi hzv, Result.andThen_ok, run_underlying ht, hmap, hq]
          have : (fun (i : Nat) => (pl.toArray)[i]?) = fun (i : Nat) => pl[i]? := by funext i; simp
          rw [this, h3]
          rfl
        · cases he
      · cases he
    · rename_i n e ht
      split at he
      · rename_i sz hsz
        split at he
        · rename_i l hl
          injection he with he; subst he
          obtain ⟨ds, h3, h4⟩ := fillV_ok hl hr (qs := parts.toList.map fun (p : Nat × Operand) => (p.1, a.eval p.2)) (by simpa using h1) h2
          refine ⟨.agg ds, ?_, h4.agg⟩
          unfold Instr.build
          simp only [Sem.run_bind, run_zeroValue hi hzv, Result.andThen_ok, run_underlying ht, run_sizeOf hsz, hq, h3]
          rfl
        · cases he
      · cases he
    · cases he
  · cases he

theorem good_buildSlice {t : TypeId} {len : Nat} {parts : Array (Nat × Operand)} {e : Eff} (he : evBuildSlice P V0 key t len parts = some e) (hs : Sub V0 S) (h : Rel E σ S a w) (ht : ∀ t, dst = some t → t < S.nt) (hf : σ key = none) :
    ∃ v w', (Instr.buildSlice t len (parts.map fun (i, x) => (i, a.eval x))).run P w = .ok v w' ∧ Good E σ S key a (.ok (.value v) w') dst e := by
  unfold evBuildSlice at he
  split at he
  · rename_i el htt
    split at he
    · rename_i sz z ps hsz hz hp
      obtain ⟨i, zv, hi, hzv, hr⟩ := zeroL_ok (σ := σ) hz w (badOf E σ S.bx)
      obtain ⟨h1, h2⟩ := evParts_ok hs h hp
      have hq : (parts.map fun (i, x) => (i, a.eval x)).toList = parts.toList.map fun (p : Nat × Operand) => (p.1, a.eval p.2) := by simp
      split at he
      · rename_i hb
        simp only [Bool.and_eq_true, Nat.beq_eq] at hb
        obtain ⟨hb1, hb2⟩ := hb
        have hb2 := Nat.le_of_ble_eq_true hb2
        split at he
        · rename_i l hl
          injection he with he; subst he
          have hzs : zv.cells.size = sz := by rw [hr.1]; exact hb1
          have hrep := rep_row hr len
          obtain ⟨ds, h3, h4⟩ := fillV_ok hl hrep (qs := parts.toList.map fun (p : Nat × Operand) => (p.1, a.eval p.2)) (by simpa using h1) h2
          refine ⟨_, _, ?_, Good.newVar (t := el) h ht hf h4 (.row key 0 len len) (.slice (some ⟨w.heap.size, 0, none⟩) len len) fun σ' w' bad' hk => .row _ hk⟩
          unfold Instr.buildSlice
          have hlim : ¬ (len * sz > 2 ^ 24) := by omega
          simp only [Sem.run_bind, run_underlying htt, Result.andThen_ok, run_sizeOf hsz, if_neg hlim]
          by_cases h0 : len * sz = 0
          · simp only [h0, if_true]
            rw [hzs, h0] at h3
            simp only [Sem.run_bind, Sem.run_pure, Result.andThen_ok, hq]
            have : (Array.range 0).map (fun x => (#[] : Array Value)[x % (#[] : Array Value).size]!) = (Array.range 0).map (zv.cells[· % sz]!) := by simp
            rw [this, h3]
            rfl
          · simp only [if_neg h0, Sem.run_bind, run_zeroValue hi hzv, Sem.run_pure, Result.andThen_ok, hq]
            rw [hzs] at h3
            rw [hzs, h3]
            rfl
        · cases he
      · cases he
    · cases he
  · cases he
end
end Go.Hb
