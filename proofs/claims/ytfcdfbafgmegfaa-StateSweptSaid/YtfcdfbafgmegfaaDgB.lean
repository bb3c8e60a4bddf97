/-
  'drive.Get': a block as it was last written (by the kit's law on ranges over functions).
-/
import Derived.Test.YtfcdfbafgmegfaaDgA
namespace Go.Proofs
open Go.RowKit Go.Shelf

attribute [local go_sem] Oper.semAt_some

/-- A block of cells. -/
def Lay (W : World) (B : Nat) (cs : Array Value) (t : TypeId) : Prop := W.heap[B]? = some (.cells cs t (0, 0))
theorem Lay.lt {W : World} {B : Nat} {cs : Array Value} {t : TypeId} (h : Lay W B cs t) : B < W.heap.size := (Array.getElem?_eq_some_iff.1 h).1
theorem Lay.cell {W : World} {B : Nat} {cs : Array Value} {t : TypeId} (h : Lay W B cs t) {j : Nat} {v : Value} (hj : cs[j]? = some v) : W.cell? ⟨B, j, none⟩ = some v := by simp [World.cell?, show W.heap[B]? = _ from h, hj]
theorem Lay.frozen {W : World} {B : Nat} {cs : Array Value} {t : TypeId} (h : Lay W B cs t) (j : Nat) : W.frozen? ⟨B, j, none⟩ = false := by simp [World.frozen?, show W.heap[B]? = _ from h]
theorem Lay.new (W : World) (cs : Array Value) (t : TypeId) : Lay (W.alloc (.cells cs t)) W.heap.size cs t := World.alloc_heap_new W _
theorem Lay.alloc {W : World} {B : Nat} {cs : Array Value} {t : TypeId} (h : Lay W B cs t) (o : Obj) : Lay (W.alloc o) B cs t := (Below.heap_alloc W o B h.lt).trans h
theorem Lay.other {W : World} {B : Nat} {cs : Array Value} {t : TypeId} (h : Lay W B cs t) {p : Addr} (hp : B ≠ p.block) (v : Value) : Lay (W.setCell p v) B cs t := (Below.heap_setCell W p v B hp).trans h
theorem lay_own {β : Type} (B : Nat) (cs : Array Value) (t : TypeId) : Own (fun (_ : β) W => Lay W B cs t) := fun _ _ _ _ hs hg hr => (grownBy_keeps_cells hg hr hs rfl).trans hs
theorem ownFrom_of {β : Type} {B : Nat} (q : β → Prop) : OwnFrom B (fun s (_ : World) => q s) := fun _ _ _ _ hs _ _ => hs
theorem HoldsW.up {n₀ : Nat} {A B : World} (h : Below n₀ A B) (hn : n₀ ≤ B.heap.size) {sv : Value} {len : Nat} {f : Nat → Go.Hb.Num} (hh : HoldsW n₀ A sv len f) : HoldsW B.heap.size B sv len f := by
  rcases hh.below h with e | ⟨b, off, cap, e, hb, hc⟩
  · exact .inl e
  · exact .inr ⟨b, off, cap, e, by omega, hc⟩

theorem loadVar_one {P : Program} {t : TypeId} (ha : Go.Hb.agT P t = some false) {p : Addr} {v : Value} {w : World} (h : w.cell? p = some v) : (loadVar t p).run P w = .ok v w := by
  simp [loadVar, Go.Hb.run_isAgg ha, load, Sem.run, h]
theorem results_cells2 {fn : Func} {p q : Tmp} {t u : TypeId} (h : fn.results = #[.cell p t, .cell q u]) (tmps : Array Value) (P : Program) (w : World) {x y : Addr} {v z : Value} (hx : tmps.getD p undef = .pointer (some x)) (hy : tmps.getD q undef = .pointer (some y))
    (ht : Go.Hb.agT P t = some false) (hu : Go.Hb.agT P u = some false) (hv : w.cell? x = some v) (hz : w.cell? y = some z) : (results fn tmps).run P w = .ok (.tuple #[v, z]) w := by
  simp only [results, h]
  simp only [Array.getD_eq_getD_getElem?] at hx hy
  simp [Sem.run_bind, Result.andThen, hx, hy, asAddr, loadVar_one ht hv, loadVar_one hu hz]
theorem ownFrom_size {β : Type} {B N : Nat} : OwnFrom B (fun (_ : β) W => N ≤ W.heap.size) := fun _ _ _ _ hs hg _ => Nat.le_trans hs hg.size
theorem Lay.set {W : World} {B : Nat} {t : TypeId} {v : Value} (v' : Value) (h : Lay W B #[v] t) : Lay (W.setCell ⟨B, 0, none⟩ v') B #[v'] t := Boxed.set v' h

theorem mem_upTo {f : Nat → Go.Hb.Num} {np k j : Nat} (hj : j < np) (hk : np - 1 - j < k) : (j, f j) ∈ upTo (rev f np) k := by
  unfold upTo
  rw [List.mem_map]
  exact ⟨np - 1 - j, by simpa using hk, by simp only [rev]; rw [show np - 1 - (np - 1 - j) = j by omega]⟩
/-- What was found last. -/
def FoundW (f : Nat → Go.Hb.Num) (np : Nat) (i : Int) (s r : ByteArray) : Prop :=
  (r = s ∧ ∀ j, j < np → (f j).n ≠ i) ∨ ∃ q, q < np ∧ (f q).n = i ∧ r = (f q).s ∧ ∀ j, q < j → j < np → (f j).n ≠ i
theorem found_none {f : Nat → Go.Hb.Num} {np : Nat} {i : Int} (s : ByteArray) (h : ∀ x ∈ upTo (rev f np) np, x.2.n ≠ i) : FoundW f np i s s :=
  .inl ⟨rfl, fun j hj => h _ (mem_upTo hj (by omega))⟩
theorem found_one {f : Nat → Go.Hb.Num} {np k : Nat} {i : Int} {ys : List (Nat × Go.Hb.Num)} {x : Nat × Go.Hb.Num} (s : ByteArray) (h : ys ++ [x] = upTo (rev f np) k) (hk : k ≤ np) (hx : x.2.n = i) (hys : ∀ y ∈ ys, y.2.n ≠ i) : FoundW f np i s x.2.s := by
  cases k with
  | zero => have := congrArg List.length h; simp [upTo] at this
  | succ k =>
    rw [upTo_succ] at h
    obtain ⟨e1, e2⟩ := List.append_inj' h rfl
    injection e2 with e2
    subst e1
    rw [e2] at hx ⊢
    exact .inr ⟨np - 1 - k, by omega, hx, rfl, fun j h1 h2 => hys _ (mem_upTo h2 (by omega))⟩

set_option maxRecDepth 100000 in
set_option maxHeartbeats 8000000 in
theorem Try.get_in (F : Fence) (n : Nat) (h183 : F.fn 183) (h203 : F.fn 203) (h207 : F.fn 207) (hro : F.round = none) (hn : 3 ≤ n) (ob : Option Addr) (nb cb : Nat) (pv : Value) (op : Option Addr) (np cp : Nat) (left i : Int) (f : Nat → Go.Hb.Num) (s : ByteArray) (w : World)
    (hpv : pv = .slice op np cp) (hreach : np ≤ 140737488355328) (h0 : 0 ≤ i) (hi : i < nb) (b off : Nat) (hob : ob = some ⟨b, off, none⟩) (hs : w.cell? ⟨b, off + i.toNat, none⟩ = some (.string s)) (hP : HoldsW w.heap.size w pv np f) :
    CallsIn F n Try.prog 183 #[.agg #[.slice ob nb cb, .slice op np cp, .int .i64 left], .int .i64 i] w fun e w' => ∃ r, e = .returned (.tuple #[.string r, .int .i64 0]) ∧ FoundW f np i s r ∧ Below w.heap.size w w' := by
  have h1 : 1 ≤ n := by omega
  subst hob
  refine callsIn_of_wp_marks Try.func183 rfl h183 ?_ hro
  simp only [Try.ntmps183, List.size_toArray, List.length_cons, List.length_nil, Nat.reduceAdd, Nat.reduceSub, Array.replicate_succ, Array.replicate_zero, List.push_toArray, List.append_toArray, List.nil_append, List.cons_append]
  gi_wp2_with (gi_at_call 203; refine (Try.back_in F (n - 1) h203 hro _ _ _ _).mono ?_; rintro e w' ⟨rfl, rfl⟩)
  have hB0 : Below w.heap.size w (((((w.alloc (.cells #[.slice (some ⟨b, off, none⟩) nb cb, .slice op np cp, .int .i64 left] 28)).alloc (.cells #[.int .i64 i] 3)).alloc (.cells #[.string { data := #[] }] 9)).alloc (.cells #[.int .i64 0] 68)).alloc (.cells #[.slice op np cp] 26)) :=
    (((((Below.refl _ w).alloc (Nat.le_refl _) _).alloc (by simp) _).alloc (by simp; omega) _).alloc (by simp; omega) _).alloc (by simp; omega) _
  have l1 := ((((Lay.new w #[.slice (some ⟨b, off, none⟩) nb cb, .slice op np cp, .int .i64 left] 28).alloc (.cells #[.int .i64 i] 3)).alloc (.cells #[.string { data := #[] }] 9)).alloc (.cells #[.int .i64 0] 68)).alloc (.cells #[.slice op np cp] 26)
  have l2 := (((Lay.new (w.alloc (.cells #[.slice (some ⟨b, off, none⟩) nb cb, .slice op np cp, .int .i64 left] 28)) #[.int .i64 i] 3).alloc (.cells #[.string { data := #[] }] 9)).alloc (.cells #[.int .i64 0] 68)).alloc (.cells #[.slice op np cp] 26)
  have l3 := ((Lay.new ((w.alloc (.cells #[.slice (some ⟨b, off, none⟩) nb cb, .slice op np cp, .int .i64 left] 28)).alloc (.cells #[.int .i64 i] 3)) #[.string { data := #[] }] 9).alloc (.cells #[.int .i64 0] 68)).alloc (.cells #[.slice op np cp] 26)
  have l4 := (Lay.new (((w.alloc (.cells #[.slice (some ⟨b, off, none⟩) nb cb, .slice op np cp, .int .i64 left] 28)).alloc (.cells #[.int .i64 i] 3)).alloc (.cells #[.string { data := #[] }] 9)) #[.int .i64 0] 68).alloc (.cells #[.slice op np cp] 26)
  have l5 := Lay.new ((((w.alloc (.cells #[.slice (some ⟨b, off, none⟩) nb cb, .slice op np cp, .int .i64 left] 28)).alloc (.cells #[.int .i64 i] 3)).alloc (.cells #[.string { data := #[] }] 9)).alloc (.cells #[.int .i64 0] 68)) #[.slice op np cp] 26
  have hsz : (((((w.alloc (.cells #[.slice (some ⟨b, off, none⟩) nb cb, .slice op np cp, .int .i64 left] 28)).alloc (.cells #[.int .i64 i] 3)).alloc (.cells #[.string { data := #[] }] 9)).alloc (.cells #[.int .i64 0] 68)).alloc (.cells #[.slice op np cp] 26)).heap.size = w.heap.size + 5 := by simp
  simp only [World.size_alloc] at l2 l3 l4 l5
  obtain ⟨W0, hW0⟩ : ∃ W0, (((((w.alloc (.cells #[.slice (some ⟨b, off, none⟩) nb cb, .slice op np cp, .int .i64 left] 28)).alloc (.cells #[.int .i64 i] 3)).alloc (.cells #[.string { data := #[] }] 9)).alloc (.cells #[.int .i64 0] 68)).alloc (.cells #[.slice op np cp] 26)) = W0 := ⟨_, rfl⟩
  rw [hW0] at hB0 l1 l2 l3 l4 l5 hsz ⊢
  clear hW0
  have hP0 : HoldsW W0.heap.size W0 pv np f := hP.up hB0 (by omega)
  subst hpv
  refine wpIn_rangeFunc_ownH hro h1 (gf := 207) (lb := #[.pointer (some ⟨w.heap.size + 1 + 1 + 1 + 1, 0, none⟩)]) rfl h207 (enters_of Try.func207 (by kernel_rfl) rfl)
    (Try.back_stops F (n - 1) h207 hro (by omega) (w.heap.size + 1 + 1 + 1 + 1) W0.heap.size _ np f hreach W0 (by omega) (by omega) (Nat.le_refl _) (l5.cell rfl) hP0) belowK_t (belowK_b (Nat.le_refl _)) (Below.refl _ _) (fun _ => rfl)
    (fun pre W => (Lay W w.heap.size #[.slice (some ⟨b, off, none⟩) nb cb, .slice op np cp, .int .i64 left] 28 ∧ Lay W (w.heap.size + 1) #[.int .i64 i] 3 ∧ Lay W (w.heap.size + 1 + 1) #[.string { data := #[] }] 9 ∧ Lay W (w.heap.size + 1 + 1 + 1) #[.int .i64 0] 68) ∧ Below w.heap.size w W ∧ W0.heap.size ≤ W.heap.size ∧ ∀ x ∈ pre, x.2.n ≠ i)
    (fun c pre W => c = .ret ∧ ∃ x : Nat × Go.Hb.Num, (Lay W (w.heap.size + 1 + 1) #[.string x.2.s] 9 ∧ Lay W (w.heap.size + 1 + 1 + 1) #[.int .i64 0] 68) ∧ Below w.heap.size w W ∧ x.2.n = i ∧ ∃ ys, pre = ys ++ [x] ∧ ∀ y ∈ ys, y.2.n ≠ i)
    (OwnFrom.and (OwnFrom.and (Own.from (lay_own _ _ _) _) (OwnFrom.and (Own.from (lay_own _ _ _) _) (OwnFrom.and (Own.from (lay_own _ _ _) _) (Own.from (lay_own _ _ _) _)))) (OwnFrom.and (ownFrom_below (Nat.le_refl _) (by omega)) (OwnFrom.and ownFrom_size (ownFrom_of _))))
    (fun c s X Y row hs hg hr => by
      obtain ⟨e, x, ⟨a1, a2⟩, a3, a4⟩ := hs
      exact ⟨e, x, ⟨lay_own _ _ _ () X Y row a1 hg (fun r e => (hr r e).2), lay_own _ _ _ () X Y row a2 hg (fun r e => (hr r e).2)⟩, ownFrom_below (β := Unit) (B := W0.heap.size) (Nat.le_refl _) (by omega) () X Y row a3 hg hr, a4⟩)
    ⟨⟨l1, l2, l3, l4⟩, hB0, Nat.le_refl _, by simp⟩
    (fun x a' W => ∃ Bx, W0.heap.size ≤ Bx ∧ Lay W Bx #[.int .i64 x.2.n, .string x.2.s] 80 ∧ a' = { tmps := #[.agg #[.slice (some ⟨b, off, none⟩) nb cb, .slice op np cp, .int .i64 left], .int .i64 i, .pointer (some ⟨w.heap.size, 0, none⟩), .pointer (some ⟨w.heap.size + 1, 0, none⟩), .pointer (some ⟨w.heap.size + 1 + 1, 0, none⟩), .pointer (some ⟨w.heap.size + 1 + 1 + 1, 0, none⟩), undef, .pointer (some ⟨Bx, 0, none⟩), .int .i64 i, .bool (decide (i < 0)), .bool (decide (i < 0)), .int .i64 i, .pointer (some ⟨w.heap.size, 0, none⟩), .slice (some ⟨b, off, none⟩) nb cb, .int .i64 nb, .bool (decide (↑nb ≤ i)), .bool (decide (i < 0) || decide (↑nb ≤ i)), .pointer (some ⟨w.heap.size, 1, none⟩), .slice op np cp, .func (.func 207) #[] #[.pointer (some ⟨w.heap.size + 1 + 1 + 1 + 1, 0, none⟩)], .int .i64 (x.1 : Int), .agg #[.int .i64 x.2.n, .string x.2.s], undef, undef, undef, undef, undef, undef, undef, undef, undef, undef, undef], defers := [] })
    (fun x a' _ X Y row hs hg hr => by obtain ⟨Bx, h1, h2, h3⟩ := hs; exact ⟨Bx, h1, lay_own _ _ _ () X Y row h2 hg (fun r e => (hr r e).2), h3⟩)
    ?assign ?body ?done ?stop
  case assign =>
    rintro l pre x W K ⟨⟨m1, m2, m3, m4⟩, hB1, hsz1, hpre⟩ hK
    simp only [encW]
    gi_wp2
    exact hK _ _ ((KeepsOthers.alloc _ _).from _) ((Below.refl _ W).alloc hsz1 _) ⟨⟨m1.alloc _, m2.alloc _, m3.alloc _, m4.alloc _⟩, hB1.alloc (by omega) _, by simp; omega, hpre⟩ ⟨W.heap.size, hsz1, Lay.new W _ _, rfl⟩
  case body =>
    rintro l pre x a' W hl ⟨r, hr⟩ ⟨⟨m1, m2, m3, m4⟩, hB1, hsz1, hpre⟩ ⟨Bx, hBx, bX, rfl⟩ hlt
    have c2 := m2.cell (j := 0) rfl
    have x0 := bX.cell (j := 0) rfl
    have x1 := bX.cell (j := 1) rfl
    have c3 := m3.cell (j := 0) rfl
    have f3 := m3.frozen 0
    have c4 := m4.cell (j := 0) rfl
    have f4 := m4.frozen 0
    gi_wp2
    · have hx : (x.2.n == i) = true := by assumption
      have hx := eq_of_beq hx
      exact ⟨((KeepsOthers.setCell _ _ _).trans (KeepsOthers.setCell _ _ _)).from _, rfl, x, ⟨(m3.set _).other (by simp) _, ((m4.other (by simp) _).set _)⟩, (hB1.setCell (p := ⟨w.heap.size + 1 + 1, 0, none⟩) (by simp; omega) _).setCell (p := ⟨w.heap.size + 1 + 1 + 1, 0, none⟩) (by simp; omega) _, hx, pre, rfl, hpre⟩
    · have hx : (x.2.n == i) = false := by assumption
      have hx : ¬ x.2.n = i := by simpa using hx
      exact ⟨KeepsFrom.refl _ _, Below.refl _ _, ⟨m1, m2, m3, m4⟩, hB1, hsz1, fun y hy => by
        rcases List.mem_append.1 hy with hy | hy
        · exact hpre y hy
        · simp at hy; subst hy; exact hx⟩
  case done =>
    rintro D ys W hD rfl ⟨⟨m1, m2, m3, m4⟩, hB1, hsz1, hpre⟩ hK
    have c1 := m1.cell (j := 0) rfl
    have c2 := m2.cell (j := 0) rfl
    have c3 := m3.cell (j := 0) rfl
    have f3 := m3.frozen 0
    have c4 := m4.cell (j := 0) rfl
    have f4 := m4.frozen 0
    have hs' := (hB1.cell (p := ⟨b, off + i.toNat, none⟩) (World.block_lt_of_cell? w _ hs)).trans hs
    gi_wp2
    have hK2 : ((W.setCell ⟨w.heap.size + 1 + 1, 0, none⟩ (.string s)).setCell ⟨w.heap.size + 1 + 1 + 1, 0, none⟩ (.int .i64 0)).heap[D]? = some (.deferred (some [])) := ((KeepsOthers.setCell W _ _).trans (KeepsOthers.setCell _ _ _)).same D _ hK rfl
    have n3 := ((m3.set (.string s)).other (p := ⟨w.heap.size + 1 + 1 + 1, 0, none⟩) (by simp) (.int .i64 0)).cell (j := 0) rfl
    have n4 := ((m4.other (p := ⟨w.heap.size + 1 + 1, 0, none⟩) (by simp) (.string s)).set (.int .i64 0)).cell (j := 0) rfl
    have hB2 := (hB1.setCell (p := ⟨w.heap.size + 1 + 1, 0, none⟩) (by simp; omega) (.string s)).setCell (p := ⟨w.heap.size + 1 + 1 + 1, 0, none⟩) (by simp; omega) (.int .i64 0)
    generalize (W.setCell ⟨w.heap.size + 1 + 1, 0, none⟩ (.string s)).setCell ⟨w.heap.size + 1 + 1 + 1, 0, none⟩ (.int .i64 0) = W2 at hK2 n3 n4 hB2 ⊢
    have q3 := cell_kept n3 (grownBy_putObj' W2 D (.deferred none)) (fun r e => by cases e; exact ⟨_, hK2, rfl⟩)
    have q4 := cell_kept n4 (grownBy_putObj' W2 D (.deferred none)) (fun r e => by cases e; exact ⟨_, hK2, rfl⟩)
    refine ⟨by simp, .inl ⟨_, _, rfl, run_takeDeferred hK2, ?_⟩⟩
    exact ⟨_, results_cells2 rfl _ _ _ rfl rfl (by kernel_rfl) (by kernel_rfl) q3 q4, s, rfl, found_none s hpre, hB2.trans (belowK_b (w := w) (Nat.le_refl _) W2 D _ _ (by omega) hK2 rfl rfl)⟩
  case stop =>
    rintro D c pre W hD hpre ⟨rfl, x, ⟨m3, m4⟩, hB1, hx, ys, rfl, hys⟩ hK
    gi_wp2
    have n3 := m3.cell (j := 0) rfl
    have n4 := m4.cell (j := 0) rfl
    have q3 := cell_kept n3 (grownBy_putObj' W D (.deferred none)) (fun r e => by cases e; exact ⟨_, hK, rfl⟩)
    have q4 := cell_kept n4 (grownBy_putObj' W D (.deferred none)) (fun r e => by cases e; exact ⟨_, hK, rfl⟩)
    obtain ⟨k, hk, he⟩ := hpre
    refine ⟨by simp, .inl ⟨_, _, rfl, run_takeDeferred hK, ?_⟩⟩
    exact ⟨_, results_cells2 rfl _ _ _ rfl rfl (by kernel_rfl) (by kernel_rfl) q3 q4, x.2.s, rfl, found_one s he hk hx hys, hB1.trans (belowK_b (w := w) (Nat.le_refl _) W D _ _ (by omega) hK rfl rfl)⟩
end Go.Proofs
