/-
  THE SYMBOLIC LAYER, PART H: stores, append, make.
-/
import Derived.Test.YtfcdfbafgmegfaaSyG
namespace Go.Hb
open Go.RowKit
section
variable {P : Program} {E : Env} {σ σ' : Nat → Option Value} {S V0 : St} {a : Act} {w w' : World} {bad : Nat → Prop} {key : Nat} {dst : Option Tmp}

theorem grownBy_setRow (w : World) (g : Nat) (cs : Array Value) : w.grownBy (w.setRow g cs) (some g) :=
  ⟨rfl, rfl, rfl, by simp, fun k _ hk => setRow_other w g k cs (fun e => hk (by rw [e]))⟩

theorem Good.upd {k : Nat} {B0 B : Box} {b0 : Nat} (h : Rel E σ S a w) (ht : ∀ t, dst = some t → t < S.nt) (h0 : aget S.bx k = some B0) (hb0 : blkOf (σ k) = some b0) (g : w.grownBy w' (some b0))
    (hB : (∀ b, b < w.heap.size → ¬ badOf E σ S.bx b → ¬ badOf E σ (aput S.bx k B) b ∧ w'.heap[b]? = w.heap[b]?) → BRel σ w' (badOf E σ (aput S.bx k B)) k B) :
    Good E σ S key a (.ok .skip w') dst (.upd k B) :=
  ⟨_, undef, w', σ, rfl, .inr ⟨rfl, rfl⟩, fun _ _ h => h, fun _ _ => rfl, (h.write h0 hb0 g hB).slot ht .junk⟩

/-- Own cells rewritten. -/
theorem Good.updCells {k ty : Nat} {l l' : List V} {b : Nat} {cs cs' : Array Value} (h : Rel E σ S a w) (ht : ∀ t, dst = some t → t < S.nt) (h0 : aget S.bx k = some (.cells ty l))
    (hk : σ k = some (.pointer (some ⟨b, 0, none⟩))) (hh : w.heap[b]? = some (.cells cs ty (0, 0))) (hr : Row σ w (badOf E σ S.bx) l' cs') :
    Good E σ S key a (.ok .skip (w.setRow b cs')) dst (.upd k (.cells ty l')) := by
  refine Good.upd h ht h0 (b0 := b) (by rw [hk]; rfl) (grownBy_setRow w b cs') fun hm => ?_
  have h2 := hr.mono (σ' := σ) (fun _ _ h => h) hm
  exact .cells b cs' hk (setRow_heap w b cs cs' ty (0, 0) hh) h2.1 h2.2

theorem run_storeVar {t : TypeId} {sz : Nat} (hsz : szT P t = some sz) {v : Value} (hv : v.cells.size = sz) (h1 : ∀ u ∈ v.cells.toList, u.oneCell' = true) {b off : Nat} {cs : Array Value} {ty : TypeId}
    (hh : w.heap[b]? = some (.cells cs ty (0, 0))) (hle : off + sz ≤ cs.size) :
    (storeVar t ⟨b, off, none⟩ v).run P w = .ok () (w.setRow b (cs.toList.take off ++ v.cells.toList ++ cs.toList.drop (off + v.cells.size)).toArray) := by
  have := run_storeCells_at P b off ty v.cells.toList 0 cs w hh (by simp [hv]; omega) h1
  simp [storeVar, run_sizeOf hsz, hv]
  simpa [hv] using this

theorem Row.ones {l : List V} {cs : Array Value} (h : Row σ w bad l cs) : ∀ u ∈ cs.toList, u.oneCell' = true := by
  intro u hu
  obtain ⟨j, hj⟩ := List.mem_iff_getElem?.1 hu
  have hlt : j < l.length := by rw [← h.1]; simpa using (List.getElem?_eq_some_iff.1 hj).1
  obtain ⟨u', hu', _, h1⟩ := h.2 j _ (List.getElem?_eq_getElem hlt)
  have : u = u' := by simpa [hu'] using hj.symm
  rw [this]; exact h1

theorem splice_at {sz i i' off j m : Nat} (hm : off + m ≤ sz) (hj : j < sz) : (i' * sz + j < i * sz + off ↔ i' < i ∨ (i' = i ∧ j < off)) ∧ (i' * sz + j < i * sz + off + m ↔ i' < i ∨ (i' = i ∧ j < off + m)) := by
  rcases Nat.lt_trichotomy i' i with h | h | h
  · have : (i' + 1) * sz ≤ i * sz := Nat.mul_le_mul_right sz h
    rw [Nat.add_mul] at this
    constructor <;> constructor <;> omega
  · subst h
    constructor <;> constructor <;> omega
  · have : (i + 1) * sz ≤ i' * sz := Nat.mul_le_mul_right sz h
    rw [Nat.add_mul] at this
    constructor <;> constructor <;> omega

theorem take_splice {α : Type} (l ys : List α) (k N : Nat) (h : k + ys.length ≤ N) (hN : N ≤ l.length) :
    (l.take k ++ ys ++ l.drop (k + ys.length)).take N = (l.take N).take k ++ ys ++ (l.take N).drop (k + ys.length) := by
  have h1 : (l.take k ++ ys).length = k + ys.length := by simp; omega
  rw [List.take_append, h1, List.take_of_length_le (by omega), List.take_take, Nat.min_eq_left (by omega), List.drop_take]

theorem good_store {t : TypeId} {x v : Operand} {ans : Ans} {e : Eff} {obs : List Prop} (he : evStore P V0 t x v ans = some (e, obs)) (ho : AllP obs) (hs : Sub V0 S) (h : Rel E σ S a w) (ht : ∀ t, dst = some t → t < S.nt) :
    ∃ w', (Instr.storeAt t (a.eval x) (a.eval v)).run P w = .ok () w' ∧ Good E σ S key a (.ok .skip w') dst e := by
  unfold evStore at he
  split at he
  · rename_i s hv
    split at he
    · rename_i xs hxs
      have hrow : Row σ w (badOf E σ S.bx) xs (a.eval v).cells := cellsOf_ok hs h hxs (evo_ok hs h hv)
      split at he
      · rename_i sz hsz
        split at he
        · rename_i hz
          rw [Nat.beq_eq] at hz
          have hvs : (a.eval v).cells.size = sz := by rw [hrow.1]; exact hz
          split at he
          · rename_i k off hx
            have hxv := evo_ok hs h hx
            generalize a.eval x = y at hxv ⊢
            split at he
            · rename_i ty l hk
              have hbox := h.box k _ (hs.bx _ _ hk)
              cases hbox with
              | cells b cs hσ hh hsz' hc =>
                have hyv : y = .pointer (some ⟨b, off, none⟩) := by
                  cases hxv with
                  | data hd => cases hd
                  | ptr b' hb' =>
                    rw [hσ] at hb'
                    injection hb' with hb'; injection hb' with hb'; injection hb' with hb'; injection hb' with hb'
                    rw [hb']
                subst hyv
                have hl0 : Row σ w (badOf E σ S.bx) l cs := ⟨hsz', hc⟩
                have fin : off + xs.length ≤ l.length → ∃ w', (Instr.storeAt t (.pointer (some ⟨b, off, none⟩)) (a.eval v)).run P w = .ok () w' ∧ Good E σ S key a (.ok .skip w') dst (.upd k (.cells ty (l.take off ++ xs ++ l.drop (off + xs.length)))) := by
                  intro hle
                  refine ⟨_, ?_, Good.updCells h ht (hs.bx _ _ hk) hσ hh (hl0.splice hrow off hle)⟩
                  have := run_storeVar (P := P) (w := w) hsz hvs hrow.ones hh (off := off) (by rw [hsz']; omega)
                  simpa [Instr.storeAt, Instr.sureAddr] using this
                split at he
                · injection he with he; injection he with h1 h2; subst h1 h2
                  obtain ⟨hle, hl', _⟩ := ho
                  subst hl'
                  exact fin hle
                · split at he
                  · rename_i hle
                    injection he with he; injection he with h1 h2; subst h1 h2
                    rw [splice_eq]
                    exact fin (Nat.le_of_ble_eq_true hle)
                  · cases he
            · cases he
          · rename_i k sz' i off hx
            have hxv := evo_ok hs h hx
            generalize a.eval x = y at hxv ⊢
            split at he
            · rename_i ty sz'' n f hk
              split at he
              · rename_i hzz
                simp only [Bool.and_eq_true, Nat.beq_eq] at hzz
                obtain ⟨⟨rfl, hle⟩, hxd⟩ := hzz
                have hle := Nat.le_of_ble_eq_true hle
                injection he with he; injection he with h1 h2; subst h1 h2
                have hi : i < n := ho.1
                have hbox := h.box k _ (hs.bx _ _ hk)
                cases hbox with
                | vec v' vs hσ hown hl hc =>
                  obtain ⟨hlen, hown⟩ := hown
                  rcases hown with ⟨_, h0⟩ | ⟨g, cap, cur, rfl, _, hg, hnc, hcm, hcur, htake⟩
                  · omega
                  · have hyv : y = .pointer (some ⟨g, i * sz' + off, none⟩) := by
                      cases hxv with
                      | data hd => cases hd
                      | vptr b' n' c' hb' =>
                        rw [hσ] at hb'
                        injection hb' with hb'; injection hb' with hb'; injection hb' with hb'; injection hb' with hb'
                        rw [hb']
                    subst hyv
                    have hin : (i + 1) * sz' ≤ n * sz' := Nat.mul_le_mul_right sz' hi
                    have hin2 : n * sz' ≤ cap * sz' := Nat.mul_le_mul_right sz' hnc
                    rw [Nat.add_mul] at hin
                    have hfit : i * sz' + off + sz ≤ cur.size := by omega
                    have hrun := run_storeVar (P := P) (w := w) hsz hvs hrow.ones hg hfit
                    refine ⟨_, by simpa [Instr.storeAt, Instr.sureAddr] using hrun, Good.upd h ht (hs.bx _ _ hk) (b0 := g) (by rw [hσ]; rfl) (grownBy_setRow w g _) fun hm => ?_⟩
                    have hrow2 := hrow.mono (σ' := σ) (fun _ _ h => h) hm
                    have hxl : xs.length = (a.eval v).cells.size := hrow.1.symm
                    refine .vec _ (vs.take (i * sz' + off) ++ (a.eval v).cells.toList ++ vs.drop (i * sz' + off + xs.length)) hσ ⟨?_, .inr ⟨g, cap, _, rfl, Nat.zero_le _, setRow_heap w g cur _ ty (0, 0) hg, hnc, hcm, ?_, ?_⟩⟩ (fun j hj => ?_) fun i' j r hi' hr => ?_
                    · simp; omega
                    · simp; omega
                    · rw [← htake, hxl]
                      have hcl : (a.eval v).cells.size = (a.eval v).cells.toList.length := by simp
                      rw [hcl]
                      have h5 := take_splice cur.toList (a.eval v).cells.toList (i * sz' + off) (n * sz') (by simp; omega) (by simp; omega)
                      rw [List.append_assoc] at h5
                      exact h5
                    · by_cases hji : j = i
                      · subst hji
                        have := hl j hj
                        rw [if_pos rfl, splice_eq]; simp; omega
                      · rw [if_neg hji]; exact hl j hj
                    · have hjs : j < sz' := by
                        have hlt := (List.getElem?_eq_some_iff.1 hr).1
                        by_cases hji : i' = i
                        · subst hji
                          have := hl i' hi'
                          rw [if_pos rfl, splice_eq] at hlt; simp at hlt; omega
                        · rw [if_neg hji, hl i' hi'] at hlt; exact hlt
                      obtain ⟨s1, s2⟩ := splice_at (i := i) (i' := i') (off := off) (j := j) (m := xs.length) (sz := sz') hle hjs
                      have hii : (i' + 1) * sz' ≤ n * sz' := Nat.mul_le_mul_right sz' hi'
                      rw [Nat.add_mul] at hii
                      rw [List.append_assoc, List.getElem?_append]
                      simp only [List.length_take, hlen]
                      rw [Nat.min_eq_left (by omega)]
                      by_cases hji : i' = i
                      · subst hji
                        rw [if_pos rfl, splice_eq, List.append_assoc, List.getElem?_append] at hr
                        simp only [List.length_take, hl i' hi'] at hr
                        rw [Nat.min_eq_left (by omega)] at hr
                        by_cases hjo : j < off
                        · rw [if_pos hjo] at hr
                          rw [if_pos (by omega), List.getElem?_take, if_pos (by omega)]
                          rw [List.getElem?_take, if_pos hjo] at hr
                          obtain ⟨u, h1, h2⟩ := hc i' j r hi' hr
                          exact ⟨u, h1, h2.mono hm⟩
                        · rw [if_neg hjo, List.getElem?_append] at hr
                          rw [if_neg (by omega), List.getElem?_append]
                          simp only [Array.length_toList]
                          by_cases hjx : j - off < xs.length
                          · rw [if_pos hjx] at hr
                            rw [if_pos (by omega), show i' * sz' + j - (i' * sz' + off) = j - off from by omega]
                            obtain ⟨u, h1, h2, h3⟩ := hrow2.2 _ r hr
                            exact ⟨u, by simpa using h1, h2.toD (allD_get hxd _ r hr)⟩
                          · rw [if_neg hjx, List.getElem?_drop] at hr
                            rw [if_neg (by omega), List.getElem?_drop]
                            obtain ⟨u, h1, h2⟩ := hc i' _ r hi' hr
                            refine ⟨u, ?_, h2.mono hm⟩
                            rw [← h1]; congr 1; omega
                      · rw [if_neg hji] at hr
                        obtain ⟨u, h1, h2⟩ := hc i' j r hi' hr
                        refine ⟨u, ?_, h2.mono hm⟩
                        by_cases hlt : i' < i
                        · rw [if_pos (by omega), List.getElem?_take, if_pos (by omega)]; exact h1
                        · have : ¬ (i' * sz' + j < i * sz' + off + xs.length) := by rw [s2]; omega
                          rw [if_neg (by omega), List.getElem?_append]
                          simp only [Array.length_toList]
                          rw [if_neg (by omega), List.getElem?_drop, ← h1]; congr 1; omega
              · cases he
            · cases he
          · cases he
        · cases he
      · cases he
    · cases he
  · cases he
end
end Go.Hb
