/- Printed by wip/tools/Walk.lean out of wip/walks/J.lean: each stretch of code, with a continuation per path. -/
import Derived.Test.YtfcdfbafgmegfaaDtA
import Derived.Test.YtfcdfbafgmegfaaChecked
import Derived.Test.YtfcdfbafgmegfaaFoC
import Derived.Test.YtfcdfbafgmegfaaWkH
namespace Go.Hb
open Go.RowKit Go.Proofs
set_option maxRecDepth 100000
set_option linter.unusedVariables false
theorem w55a_0 (m : Mac) {Q : V → Prop}
    (c_ : (SpecV Try.prog 72 [nums m.pipes] 59 2 /-nums m.pipes-/ (m.pipes.n) (fun i => (m.pipes.f i).e)) ∧ (Spec Try.prog 101 2 [.vec 0, .fn 102 [.ptr 1 0]] [(0, .vec 59 2 /-nums m.pipes-/ (m.pipes.n) (fun i => (m.pipes.f i).e)), (1, .cells 30 m.e)] (.vec 0) [(0, .vec 59 2 /-nums m.pipes-/ (m.pipes.n) (fun i => (m.pipes.f i).e)), (1, .cells 30 m.e)]) ∧ Q (.agg m.e)) :
    GoToE Try.prog 55 Q [.code (bodyOf Try.f55)] (St0 Try.f55 0 [.agg m.e] []) :=
  GoToE.segEnd (by kernel_rfl) (Try.func55) (pre := []) (sc := [(1, [(2, .row 59 2 m.pipes.n fun i => (m.pipes.f i).e), (4, .own [4, 0] [(0, .vec 59 2 m.pipes.n fun i => (m.pipes.f i).e), (1, .cells 30 m.e)] (.vec 0))])]) (ps := [.frz 4]) (obs := [SpecV Try.prog 72 [nums m.pipes] 59 2 /-nums m.pipes-/ (m.pipes.n) (fun i => (m.pipes.f i).e), Spec Try.prog 101 2 [.vec 0, .fn 102 [.ptr 1 0]] [(0, .vec 59 2 /-nums m.pipes-/ (m.pipes.n) (fun i => (m.pipes.f i).e)), (1, .cells 30 m.e)] (.vec 0) [(0, .vec 59 2 /-nums m.pipes-/ (m.pipes.n) (fun i => (m.pipes.f i).e)), (1, .cells 30 m.e)]]) (by kernel_rfl) ⟨c_.1, c_.2.1, trivial⟩ c_.2.2

theorem w55b_0 (m : Mac) (d : Sq Num) {Q : V → Prop}
    (c_ : (SpecV Try.prog 72 [nums m.pipes] 59 2 /-nums m.pipes-/ (m.pipes.n) (fun i => (m.pipes.f i).e)) ∧ (Spec Try.prog 101 2 [.vec 0, .fn 102 [.ptr 1 0]] [(0, .vec 59 2 /-nums m.pipes-/ (m.pipes.n) (fun i => (m.pipes.f i).e)), (1, .cells 30 m.e)] (.vec 1010) [(1, .cells 30 m.e), (1010, .vec 59 2 /-nums d-/ (d.n) (fun i => (d.f i).e))]) ∧ Q (.agg [.int .u64 (m.clock), .int .i64 (m.quantum), .int .i64 (m.cur), .int .i64 (m.left), .seq 1 (m.frames.n) (fun i => [V.str (m.frames.f i)]), .seq 96 (m.procs.n) (fun i => (m.procs.f i).e), .int .i64 (m.next), .str (m.init), nums d, .int .i64 (m.newpipe), .str (m.inn), .bool (m.endd), .int .u64 (m.told), .seq 1 (m.drive.blocks.n) (fun i => [V.str (m.drive.blocks.f i)]), .seq 2 (m.drive.pending.n) (fun i => (m.drive.pending.f i).e), .int .i64 (m.drive.left), .seq 2 (m.dirty.n) (fun i => (m.dirty.f i).e)])) :
    GoToE Try.prog 55 Q [.code (bodyOf Try.f55)] (St0 Try.f55 0 [.agg m.e] []) :=
  GoToE.segEnd (by kernel_rfl) (Try.func55) (pre := []) (sc := [(1, [(2, .row 59 2 m.pipes.n fun i => (m.pipes.f i).e), (4, .own [4, 0] [(1, .cells 30 m.e), (1010, .vec 59 2 d.n fun i => (d.f i).e)] (.vec 1010))])]) (ps := [.frz 1008000006]) (obs := [SpecV Try.prog 72 [nums m.pipes] 59 2 /-nums m.pipes-/ (m.pipes.n) (fun i => (m.pipes.f i).e), Spec Try.prog 101 2 [.vec 0, .fn 102 [.ptr 1 0]] [(0, .vec 59 2 /-nums m.pipes-/ (m.pipes.n) (fun i => (m.pipes.f i).e)), (1, .cells 30 m.e)] (.vec 1010) [(1, .cells 30 m.e), (1010, .vec 59 2 /-nums d-/ (d.n) (fun i => (d.f i).e))]]) (by kernel_rfl) ⟨c_.1, c_.2.1, trivial⟩ c_.2.2

end Go.Hb
/-
  THE FUNCTIONS, PART OD: slices.DeleteFunc on an own row of pipes, with the own code's predicate; Sweep.
-/
namespace Go.Hb
open Go.RowKit Go.Proofs
set_option maxRecDepth 100000

/-- A pipe without an end. -/
def gone (m : Mac) (y : Int) : Bool := IntKind.i64.wrap ((endsF m y).1 + (endsF m y).2) == 0
theorem gone_spec (m : Mac) (p : Num) (hn : m.procs.n ≤ 140737488355328) : Spec Try.prog 102 1 [.agg p.e, .ptr 0 0] [(0, .cells 30 m.e)] (.bool (gone m p.n)) [(0, .cells 30 m.e)] :=
  specM_of (Try.func102) (by kernel_rfl) (by kernel_rfl) (by kernel_rfl) (w102_0 m p (endsF m p.n).1 (endsF m p.n).2 ⟨ends50_spec m p.n hn, rfl, rfl⟩)
theorem Spec.leR {P : Program} {f : FuncId} {m : Nat} {args : List V} {bx b1 : List (Nat × Box)} {b c : Bool} (h : Spec P f m args bx (.bool b) b1) (hbc : b = c) : Spec P f m args bx (.tt c) b1 := by
  subst hbc
  exact h.leM fun _ _ _ v hv => by
    cases hv with
    | data hd => cases hd; exact .data .tt

theorem xindex_at (m : Mac) (l : Sq Num) (hn : m.procs.n ≤ 140737488355328) (hl : l.n ≤ 4096) : ∀ (k i : Nat), i + k = l.n →
    GoToM Try.prog 129 2 (fun x y => x = .int .i64 (idxF (fun i => gone m (l.f i).n) k i) ∧ y = [(0, .vec 59 2 l.n fun i => (l.f i).e), (1, .cells 30 m.e)]) (headOf Try.f129 0) ⟨19, 1000, [(0, .vec 0), (1, .fn 102 [.ptr 1 0]), (7, .int .i64 ((↑l.n : Int))), (8, .int .i64 i)], [(0, .vec 59 2 l.n fun i => (l.f i).e), (1, .cells 30 m.e)]⟩ := by
  intro k
  induction k with
  | zero =>
    intro i hi
    apply x129t_1 m l i
    case c_f => intro _; exact ⟨rfl, rfl⟩
    all_goals (intro h; simp only [decide_eq_true_eq] at h; omega)
  | succ k ih =>
    intro i hi
    have hw := wrap_succ (i := i) (n := l.n) (by omega) (by omega)
    have hb : (0 : Int) ≤ i ∧ (i : Int) < l.n := by omega
    have hs := gone_spec m (l.f i) hn
    cases hg : gone m (l.f i).n with
    | true =>
      apply x129t_1 m l i
      case c_t =>
        intro _
        refine ⟨hb, by omega, ?_, ?_, rfl⟩
        · rw [Int.toNat_natCast]; exact hs.leR hg
        · simp only [idxF, hg, if_true]
      case c_f => intro h; simp only [decide_eq_false_iff_not] at h; omega
    | false =>
      apply x129f_1 m l i
      case c_t =>
        intro _
        refine ⟨hb, by omega, ?_, ?_⟩
        · rw [Int.toNat_natCast]; exact hs.leR hg
        · rw [hw]
          have := ih (i + 1) (by omega)
          simpa [idxF, hg] using this
      case c_f => intro h; simp only [decide_eq_false_iff_not] at h; omega
theorem xindex_spec (m : Mac) (l : Sq Num) (hn : m.procs.n ≤ 140737488355328) (hl : l.n ≤ 4096) :
    Spec Try.prog 129 2 [.vec 0, .fn 102 [.ptr 1 0]] [(0, .vec 59 2 l.n fun i => (l.f i).e), (1, .cells 30 m.e)] (.int .i64 (idxF (fun i => gone m (l.f i).n) l.n 0)) [(0, .vec 59 2 l.n fun i => (l.f i).e), (1, .cells 30 m.e)] :=
  specM_of (Try.func129) (by kernel_rfl) (by kernel_rfl) (by kernel_rfl) (x129t_0 m l (xindex_at m l hn hl l.n 0 (by omega)))

/-- Those of the first that stay. -/
def keepF (q : Nat → Bool) (l : Sq Num) : Nat → Sq Num
  | 0 => ⟨0, fun _ => num0⟩
  | j + 1 => if q j then keepF q l j else (keepF q l j).snoc (l.f j)
theorem keepF_le (q : Nat → Bool) (l : Sq Num) : ∀ j, (keepF q l j).n ≤ j
  | 0 => Nat.le_refl 0
  | j + 1 => by
    have := keepF_le q l j
    simp only [keepF]
    split
    · omega
    · show (keepF q l j).n + 1 ≤ j + 1; omega
theorem keepF_all {q : Nat → Bool} {l : Sq Num} : ∀ {j}, (∀ t, t < j → q t = false) → (keepF q l j).n = j ∧ ∀ t, t < j → (keepF q l j).f t = l.f t
  | 0, _ => ⟨rfl, fun t ht => absurd ht (Nat.not_lt_zero t)⟩
  | j + 1, h => by
    obtain ⟨h1, h2⟩ := keepF_all (q := q) (l := l) (j := j) fun t ht => h t (by omega)
    have hq : q j = false := h j (by omega)
    rw [keepF, if_neg (by rw [hq]; simp)]
    refine ⟨by show (keepF q l j).n + 1 = j + 1; omega, fun t ht => ?_⟩
    show (if t < (keepF q l j).n then (keepF q l j).f t else l.f j) = l.f t
    by_cases htj : t < j
    · rw [if_pos (by omega)]; exact h2 t htj
    · rw [if_neg (by omega), show t = j by omega]

theorem GoToM.reVec {P : Program} {f : FuncId} {m : Nat} {Q : V → List (Nat × Box) → Prop} {todo : List Item} {S : St} (k : Nat) {ty sz n n' : Nat} {g g' : Nat → List V} (h0 : aget S.bx k = some (.vec ty sz n g)) (hn : n = n') (hg : ∀ i, i < n → g i = g' i)
    (h : GoToM P f m Q todo { S with bx := arep S.bx k (.vec ty sz n' g') }) : GoToM P f m Q todo S :=
  let ⟨r, b, hq, h⟩ := h
  ⟨r, b, hq, h.reVec h0 hn hg⟩
theorem del_at (m : Mac) (l : Sq Num) (hn : m.procs.n ≤ 140737488355328) (hl : l.n ≤ 4096) : ∀ (k j : Nat) (d : Sq Num), j + k = l.n → d.n = l.n → (keepF (fun i => gone m (l.f i).n) l j).n < j →
    (∀ t, t < (keepF (fun i => gone m (l.f i).n) l j).n → d.f t = (keepF (fun i => gone m (l.f i).n) l j).f t) → (∀ t, j ≤ t → d.f t = l.f t) →
    GoToM Try.prog 101 2 (fun x y => x = .vec 1010 ∧ ∃ g, y = [(1, .cells 30 m.e), (1010, .vec 59 2 (keepF (fun i => gone m (l.f i).n) l l.n).n g)] ∧ ∀ t, t < (keepF (fun i => gone m (l.f i).n) l l.n).n → g t = ((keepF (fun i => gone m (l.f i).n) l l.n).f t).e)
      (headOf Try.f101 0) ⟨42, 1000, [(0, .vec 0), (1, .fn 102 [.ptr 1 0]), (5, .int .i64 ((keepF (fun i => gone m (l.f i).n) l j).n : Nat)), (6, .int .i64 (j : Nat))], [(0, .vec 59 2 d.n fun i => (d.f i).e), (1, .cells 30 m.e)]⟩ := by
  intro k
  induction k with
  | zero =>
    intro j d hj hd hlt h1 h2
    obtain rfl : j = l.n := by omega
    apply w101_1 m l 0 d ((keepF (fun i => gone m (l.f i).n) l l.n).n : Nat) (l.n : Nat) false
    case c_f =>
      intro _
      refine ⟨by omega, by omega, by omega, by omega, by omega, rfl, _, rfl, fun t ht => ?_⟩
      have ht' : Nat.blt t (((keepF (fun i => gone m (l.f i).n) l l.n).n : Int)).toNat = true := Nat.ble_eq_true_of_le (by rw [Int.toNat_natCast]; exact ht)
      simp only [ht']
      rw [h1 t ht]
    all_goals (intro h; simp only [decide_eq_true_eq] at h; omega)
  | succ k ih =>
    intro j d hj hd hlt h1 h2
    have hw := wrap_succ (i := j) (n := l.n) (by omega) (by omega)
    have hwi := wrap_succ (i := (keepF (fun i => gone m (l.f i).n) l j).n) (n := l.n) (by omega) (by omega)
    have hb : (0 : Int) ≤ j ∧ (j : Int) < (d.n : Int) := by omega
    have hs := gone_spec m (d.f j) hn
    rw [h2 j (Nat.le_refl _)] at hs
    apply w101_1 m l 0 d ((keepF (fun i => gone m (l.f i).n) l j).n : Nat) (j : Nat) (gone m (l.f j).n)
    case c_tt =>
      intro _ h
      simp only [Bool.not_eq_true'] at h
      have ek : keepF (fun i => gone m (l.f i).n) l (j + 1) = (keepF (fun i => gone m (l.f i).n) l j).snoc (l.f j) := by simp only [keepF, h]; rfl
      refine ⟨hb, by omega, ?_, by omega, by omega, ?_⟩
      · rw [Int.toNat_natCast, h2 j (Nat.le_refl _)]; exact hs
      · rw [hw, hwi]
        have := ih (j + 1) ⟨d.n, fun t => if t = (keepF (fun i => gone m (l.f i).n) l j).n then l.f j else d.f t⟩ (by omega) hd (by rw [ek]; show _ + 1 < j + 1; omega) (fun t ht => ?_) (fun t ht => ?_)
        · rw [ek] at this
          refine GoToM.reVec 0 (n' := d.n) (g' := fun t => (if t = (keepF (fun i => gone m (l.f i).n) l j).n then l.f j else d.f t).e) rfl rfl (fun t ht => ?_) this
          simp only [Int.toNat_natCast]
          by_cases hti : t = (keepF (fun i => gone m (l.f i).n) l j).n
          · rw [if_pos hti, if_pos hti, h2 j (Nat.le_refl _)]; rfl
          · rw [if_neg hti, if_neg hti]
        · rw [ek] at ht ⊢
          have ht : t < (keepF (fun i => gone m (l.f i).n) l j).n + 1 := ht
          show (if t = (keepF (fun i => gone m (l.f i).n) l j).n then l.f j else d.f t) = (if t < (keepF (fun i => gone m (l.f i).n) l j).n then (keepF (fun i => gone m (l.f i).n) l j).f t else l.f j)
          by_cases hti : t = (keepF (fun i => gone m (l.f i).n) l j).n
          · rw [if_pos hti, if_neg (by omega)]
          · rw [if_neg hti, if_pos (by omega)]; exact h1 t (by omega)
        · show (if t = (keepF (fun i => gone m (l.f i).n) l j).n then l.f j else d.f t) = l.f t
          rw [if_neg (by omega)]; exact h2 t (by omega)
    case c_tf =>
      intro _ h
      simp only [Bool.not_eq_false'] at h
      have ek : keepF (fun i => gone m (l.f i).n) l (j + 1) = keepF (fun i => gone m (l.f i).n) l j := by simp only [keepF, h]; rfl
      refine ⟨hb, by omega, ?_, ?_⟩
      · rw [Int.toNat_natCast, h2 j (Nat.le_refl _)]; exact hs
      · rw [hw]
        have := ih (j + 1) d (by omega) hd (by rw [ek]; omega) (by rw [ek]; exact h1) (fun t ht => h2 t (by omega))
        rw [ek] at this
        exact this
    case c_f => intro h; simp only [decide_eq_false_iff_not] at h; omega
end Go.Hb
