/-
  THE FUNCTIONS, PART OF: the law of the swept machine.
-/
import Derived.Test.YtfcdfbafgmegfaaFoE
import Derived.Test.YtfcdfbafgmegfaaWkSW
namespace Go.Hb
open Go.RowKit Go.Proofs
set_option maxRecDepth 100000

/-- A slot, of which less is told. -/
theorem GoTo.reFr {P : Program} {f : FuncId} {m : Nat} {res : V} {bx1 : List (Nat × Box)} {S : St} {todo : List Item} {k : Nat} {s s' : V} (h0 : aget S.fr k = some s) (hle : Le s s') (h : GoTo P f m res bx1 todo { S with fr := arep S.fr k s' }) : GoTo P f m res bx1 todo S := by
  intro E σ a w b cs hb hk hr hf hnx
  refine h E σ a w b cs hb hk ⟨hr.toMem, hr.dfs, hr.nt, fun t x hx => ?_⟩ hf hnx
  rw [aget_arep] at hx
  split at hx
  · rename_i htk
    obtain ⟨rfl, _⟩ := htk
    cases hx
    obtain ⟨v, hv, hc⟩ := hr.fr t s h0
    exact ⟨v, hv, hle _ _ _ _ hc⟩
  · exact hr.fr t x hx
theorem GoToE.reFr {P : Program} {f : FuncId} {S : St} {Q : V → Prop} {todo : List Item} (k : Nat) {s s' : V} (h0 : aget S.fr k = some s) (hle : Le s s') (h : GoToE P f Q todo { S with fr := arep S.fr k s' }) : GoToE P f Q todo S :=
  let ⟨r, hq, h⟩ := h
  ⟨r, hq, h.reFr h0 hle⟩

/-- Does an open file read or write the pipe? As the law counts it. -/
def useB (p : Prc) (y : Int) (t : Nat) : Bool := (p.n (68 + 3 * t) == 4 || p.n (68 + 3 * t) == 5) && p.n (69 + 3 * t) == y
def useJ (p : Prc) (y : Int) : Nat → Nat → Bool → Bool
  | 0, _, u => u
  | k + 1, t, u => useJ p y k (t + 1) (u || useB p y t)
def useI (m : Mac) (y : Int) : Nat → Nat → Bool → Bool
  | 0, _, u => u
  | k + 1, i, u => useI m y k (i + 1) (useJ (m.procs.f i) y 8 0 u)
theorem useJ_iff (p : Prc) (y : Int) : ∀ (k j : Nat) (u : Bool), useJ p y k j u = true ↔ u = true ∨ ∃ t, j ≤ t ∧ t < j + k ∧ (p.n (68 + 3 * t) = 4 ∨ p.n (68 + 3 * t) = 5) ∧ p.n (69 + 3 * t) = y
  | 0, j, u => ⟨.inl, fun h => h.elim id fun ⟨t, h1, h2, _⟩ => by omega⟩
  | k + 1, j, u => by
    rw [useJ, useJ_iff p y k (j + 1)]
    have hb : useB p y j = true ↔ (p.n (68 + 3 * j) = 4 ∨ p.n (68 + 3 * j) = 5) ∧ p.n (69 + 3 * j) = y := by
      simp only [useB, Bool.and_eq_true, Bool.or_eq_true, beq_iff_eq]
    rw [Bool.or_eq_true, hb]
    constructor
    · rintro ((h | h) | ⟨t, h1, h2, h3⟩)
      · exact .inl h
      · exact .inr ⟨j, by omega, by omega, h⟩
      · exact .inr ⟨t, by omega, by omega, h3⟩
    · rintro (h | ⟨t, h1, h2, h3⟩)
      · exact .inl (.inl h)
      · by_cases ht : t = j
        · subst ht; exact .inl (.inr h3)
        · exact .inr ⟨t, by omega, by omega, h3⟩
theorem useI_iff (m : Mac) (y : Int) : ∀ (k i : Nat) (u : Bool), useI m y k i u = true ↔ u = true ∨ ∃ t, i ≤ t ∧ t < i + k ∧ usesP (m.procs.f t) y
  | 0, i, u => ⟨.inl, fun h => h.elim id fun ⟨t, h1, h2, _⟩ => by omega⟩
  | k + 1, i, u => by
    rw [useI, useI_iff m y k (i + 1), useJ_iff]
    constructor
    · rintro ((h | ⟨t, h1, h2, h3⟩) | ⟨t, h1, h2, h3⟩)
      · exact .inl h
      · exact .inr ⟨i, by omega, by omega, ⟨t, by omega, h3⟩⟩
      · exact .inr ⟨t, by omega, by omega, h3⟩
    · rintro (h | ⟨t, h1, h2, h3⟩)
      · exact .inl (.inl h)
      · by_cases ht : t = i
        · subst ht
          obtain ⟨s, hs, h4⟩ := h3
          exact .inl (.inr ⟨s, by omega, by omega, h4⟩)
        · exact .inr ⟨t, by omega, by omega, h3⟩
theorem useI_gone (m : Mac) (y : Int) (hn : m.procs.n ≤ 4096) : useI m y m.procs.n 0 false = !gone m y := by
  have h1 := useI_iff m y m.procs.n 0 false
  have h2 := gone_iff m y hn
  cases hg : gone m y with
  | true =>
    rw [hg] at h2
    cases hu : useI m y m.procs.n 0 false with
    | false => rfl
    | true =>
      rcases h1.1 hu with h | ⟨t, _, ht, h⟩
      · cases h
      · exact absurd h (h2.1 rfl t (by omega))
  | false =>
    cases hu : useI m y m.procs.n 0 false with
    | true => rfl
    | false =>
      exfalso
      have : gone m y = true := h2.2 fun t ht h => by
        have := h1.2 (.inr ⟨t, Nat.zero_le _, by omega, h⟩)
        rw [hu] at this; cases this
      rw [hg] at this; cases this

theorem keepF_mono (q : Nat → Bool) (l : Sq Num) {a : Nat} : ∀ {j : Nat}, a ≤ j → (keepF q l a).n ≤ (keepF q l j).n ∧ ∀ t, t < (keepF q l a).n → (keepF q l j).f t = (keepF q l a).f t
  | 0, h => by
    obtain rfl : a = 0 := by omega
    exact ⟨Nat.le_refl _, fun _ _ => rfl⟩
  | j + 1, h => by
    by_cases haj : a = j + 1
    · subst haj; exact ⟨Nat.le_refl _, fun _ _ => rfl⟩
    · obtain ⟨h1, h2⟩ := keepF_mono q l (a := a) (j := j) (by omega)
      rw [keepF]
      split
      · exact ⟨h1, h2⟩
      · refine ⟨by show _ ≤ (keepF q l j).n + 1; omega, fun t ht => ?_⟩
        show (if t < (keepF q l j).n then (keepF q l j).f t else l.f j) = _
        rw [if_pos (by omega)]; exact h2 t ht
/-- Swept once more it is the same. -/
theorem sweep_twice (m : Mac) (hn : m.procs.n ≤ 4096) : (sweptL (sweepM m)).n = (sweptL m).n ∧ ∀ t, t < (sweptL m).n → (sweptL (sweepM m)).f t = (sweptL m).f t := by
  have hk := keepF_all (q := goneQ (sweepM m)) (l := sweptL m) (j := (sweptL m).n) fun t ht => by
    obtain ⟨i, hi, hq, he⟩ := (keepF_ok (goneQ m) m.pipes m.pipes.n).1 t ht
    have h1 : gone m (m.pipes.f i).n = false := hq
    show gone (sweepM m) ((sweptL m).f t).n = false
    have h2 : ((sweptL m).f t).n = (m.pipes.f i).n := congrArg Num.n he
    rw [h2]
    cases hg : gone (sweepM m) (m.pipes.f i).n with
    | false => rfl
    | true =>
      rw [← h1]
      exact ((gone_iff m _ hn).2 ((gone_iff (sweepM m) _ hn).1 hg)).symm
  exact hk

section
variable (m : Mac)
theorem swept_fd (w2 : Mac) (al : Bool) (g e e2 s1 s2 n i j : Int) (q : Num) (p : Prc) {Q : V → Prop} (u0 : Bool)
    (hout : ∀ u, u = useJ p q.n 8 0 u0 → GoToE Try.prog 14 Q (headOf Try.f14 1) ⟨110, 1000, [(1, .ptr 0 0), (3, .ptr 1 0), (4, .int .i64 n), (6, .ptr 2 0), (7, .bool u), (26, nums m.pipes), (27, .int .i64 ((↑m.pipes.n : Int))), (28, .int .i64 i), (33, prcs m.procs), (34, .int .i64 ((↑m.procs.n : Int))), (35, .int .i64 (IntKind.i64.wrap (j + 1)))], [(0, .cells 30 m.e), (1, .cells 30 (sweepM m).e), (2, .cells 59 q.e)]⟩) : ∀ (k t : Nat) (u : Bool), t + k = 8 → useJ p q.n k t u = useJ p q.n 8 0 u0 →
    GoToE Try.prog 14 Q (headOf Try.f14 2) ⟨110, 1000, [(1, .ptr 0 0), (3, .ptr 1 0), (4, .int .i64 n), (6, .ptr 2 0), (7, .bool u), (26, nums m.pipes), (27, .int .i64 ((↑m.pipes.n : Int))), (28, .int .i64 i), (33, prcs m.procs), (34, .int .i64 ((↑m.procs.n : Int))), (35, .int .i64 j), (40, .agg p.fds), (41, .int .i64 t)], [(0, .cells 30 m.e), (1, .cells 30 (sweepM m).e), (2, .cells 59 q.e)]⟩ := by
  intro k
  induction k with
  | zero =>
    intro t u ht hu
    apply w14_3 m (sweepM m) w2 al g e e2 s1 s2 n i j t q u p
    case c_f => intro _; exact hout u hu
    all_goals (intro h; simp only [decide_eq_true_eq] at h; omega)
  | succ k ih =>
    intro t u ht hu
    have hw := wrap_succ (i := t) (n := 8) (by omega) (by omega)
    have hb : (0 : Int) ≤ t ∧ (t : Int) < ((8 : Nat) : Int) := by omega
    have hl : (t : Int).toNat * 3 + 3 ≤ p.fds.length := by
      have : p.fds.length = 24 := rfl
      rw [Int.toNat_natCast]; omega
    have hp : (V.agg (p.fd (t : Int).toNat) : V) = .agg (List.take 3 (List.drop ((t : Int).toNat * 3) p.fds)) := by simp only [Int.toNat_natCast]; rw [fd_ok _ (by omega)]
    rw [useJ] at hu
    apply w14_3 m (sweepM m) w2 al g e e2 s1 s2 n i j t q u p
    case c_f => intro h; simp only [decide_eq_false_iff_not] at h; omega
    case c_tt =>
      intro _ h1
      refine ⟨hb, hl, hp, GoToE.reFr 7 (s' := .bool true) rfl (Le.tt _) ?_⟩
      rw [hw]
      exact ih (t + 1) true (by omega) (by rw [← hu, h1, Bool.true_or])
    case c_tft =>
      intro _ h1 h2
      refine ⟨hb, hl, hp, ?_⟩
      rw [hw]
      refine ih (t + 1) _ (by omega) (Eq.trans ?_ hu)
      rw [Int.toNat_natCast] at h2 ⊢
      simp only [useB, h1, h2, Bool.false_or, Bool.true_or, Bool.true_and]
    case c_tfft =>
      intro _ h1 h2 h3
      refine ⟨hb, hl, hp, ?_⟩
      rw [hw]
      refine ih (t + 1) _ (by omega) (Eq.trans ?_ hu)
      rw [Int.toNat_natCast] at h2 h3 ⊢
      simp only [useB, h1, h2, h3, Bool.false_or, Bool.true_and]
    case c_tfff =>
      intro _ h1 h2 h3
      refine ⟨hb, hl, hp, GoToE.reFr 7 (s' := .bool false) rfl (Le.tt _) ?_⟩
      rw [hw]
      refine ih (t + 1) _ (by omega) (Eq.trans ?_ hu)
      rw [Int.toNat_natCast] at h2 h3
      simp only [useB, h1, h2, h3, Bool.false_or, Bool.false_and]

theorem swept_pr (hn : m.procs.n ≤ 4096) (w2 : Mac) (al : Bool) (g e e2 s1 s2 : Int) {i : Nat} (hi : i < m.pipes.n) (hln : m.pipes.n ≤ 4096) {Q : V → Prop}
    (hout : GoToE Try.prog 14 Q (headOf Try.f14 0) ⟨110, 1000, [(1, .ptr 0 0), (3, .ptr 1 0), (4, .int .i64 ((keepF (goneQ m) m.pipes (i + 1)).n : Nat)), (26, nums m.pipes), (27, .int .i64 ((↑m.pipes.n : Int))), (28, .int .i64 ((i + 1 : Nat) : Int))], [(0, .cells 30 m.e), (1, .cells 30 (sweepM m).e)]⟩) : ∀ (k j : Nat) (u : Bool), j + k = m.procs.n → useI m (m.pipes.f i).n k j u = useI m (m.pipes.f i).n m.procs.n 0 false →
    GoToE Try.prog 14 Q (headOf Try.f14 1) ⟨110, 1000, [(1, .ptr 0 0), (3, .ptr 1 0), (4, .int .i64 ((keepF (goneQ m) m.pipes i).n : Nat)), (6, .ptr 2 0), (7, .bool u), (26, nums m.pipes), (27, .int .i64 ((↑m.pipes.n : Int))), (28, .int .i64 i), (33, prcs m.procs), (34, .int .i64 ((↑m.procs.n : Int))), (35, .int .i64 j)], [(0, .cells 30 m.e), (1, .cells 30 (sweepM m).e), (2, .cells 59 (m.pipes.f i).e)]⟩ := by
  intro k
  induction k with
  | zero =>
    intro j u hj hu
    have hwi := wrap_succ (i := i) (n := m.pipes.n) hi (by omega)
    have hle := keepF_le (goneQ m) m.pipes i
    have hwn : IntKind.i64.wrap (((keepF (goneQ m) m.pipes i).n : Int) + 1) = ((keepF (goneQ m) m.pipes i).n + 1 : Nat) := wrap_succ (n := 4097) (by omega) (by omega)
    have hu : u = !goneQ m i := by rw [useI] at hu; rw [hu, useI_gone m _ hn]; rfl
    have hrun := numEq_run ((sweepM m).pipes.f (keepF (goneQ m) m.pipes i).n) (m.pipes.f i)
    cases hq : goneQ m i with
    | true =>
      rw [hq] at hu
      have ek : keepF (goneQ m) m.pipes (i + 1) = keepF (goneQ m) m.pipes i := by rw [keepF, if_pos hq]
      rw [ek] at hout
      apply w14_2 m (sweepM m) w2 al g e e2 s1 s2 _ i j _ u
      case c_ft => intro _ _; rw [hwi]; exact hout
      all_goals first
        | (intro h; simp only [decide_eq_true_eq] at h; omega)
        | (intro _ h; rw [hu] at h; cases h)
    | false =>
      rw [hq] at hu
      have ek : keepF (goneQ m) m.pipes (i + 1) = (keepF (goneQ m) m.pipes i).snoc (m.pipes.f i) := by rw [keepF, if_neg (by rw [hq]; simp)]
      have hm := keepF_mono (goneQ m) m.pipes (a := i + 1) (j := m.pipes.n) (by omega)
      rw [ek] at hm hout
      have hm1 : (keepF (goneQ m) m.pipes i).n + 1 ≤ (sweptL m).n := hm.1
      have hm2 : (sweptL m).f (keepF (goneQ m) m.pipes i).n = m.pipes.f i := by
        have := hm.2 (keepF (goneQ m) m.pipes i).n (Nat.lt_succ_self _)
        refine Eq.trans this ?_
        show (if _ < _ then _ else _) = _
        rw [if_neg (Nat.lt_irrefl _)]
      have hb : (0 : Int) ≤ (keepF (goneQ m) m.pipes i).n ∧ ((keepF (goneQ m) m.pipes i).n : Int) < (sweepM m).pipes.n := by
        show _ ∧ _ < ((sweptL m).n : Int)
        omega
      have hsame : numEq ((sweepM m).pipes.f (keepF (goneQ m) m.pipes i).n) (m.pipes.f i) = true := by
        show numEq ((sweptL m).f _) _ = true
        rw [hm2]; exact numEq_self _
      apply w14_2 m (sweepM m) w2 al g e e2 s1 s2 ((keepF (goneQ m) m.pipes i).n : Nat) i j _ u
      case c_ffff =>
        intro _ _ _ _
        refine ⟨hb, by rw [Int.toNat_natCast]; exact hrun, ?_⟩
        rw [hwi, hwn]; exact hout
      case c_ffft =>
        intro _ _ _ h
        rw [Int.toNat_natCast, hsame] at h; cases h
      case c_fft =>
        intro _ _ h
        simp only [decide_eq_true_eq] at h
        have h : ((keepF (goneQ m) m.pipes i).n : Int) ≥ ((sweptL m).n : Int) := h
        omega
      case c_ft => intro _ h; rw [hu] at h; cases h
      all_goals (intro h; simp only [decide_eq_true_eq] at h; omega)
  | succ k ih =>
    intro j u hj hu
    have hw := wrap_succ (i := j) (n := m.procs.n) (by omega) (by omega)
    have hb : (0 : Int) ≤ j ∧ (j : Int) < m.procs.n := by omega
    apply w14_2 m (sweepM m) w2 al g e e2 s1 s2 _ i j _ u
    case c_t =>
      intro _
      refine ⟨hb, ?_⟩
      rw [Int.toNat_natCast]
      refine swept_fd m w2 al g e e2 s1 s2 _ i j _ (m.procs.f j) u (fun u' hu' => ?_) 8 0 u rfl rfl
      rw [hw]
      exact ih (j + 1) u' (by omega) (by rw [← hu, useI, hu'])
    all_goals (intro h; simp only [decide_eq_false_iff_not] at h; omega)

theorem swept_at (ok : MacOk m) (hn : m.procs.n ≤ 4096) (hln : m.pipes.n ≤ 4096) (hck : checkF m = 0) (g e : Int) : ∀ (k i : Nat), i + k = m.pipes.n →
    GoToE Try.prog 14 (fun r => Le r (.bool true)) (headOf Try.f14 0) ⟨110, 1000, [(1, .ptr 0 0), (3, .ptr 1 0), (4, .int .i64 ((keepF (goneQ m) m.pipes i).n : Nat)), (26, nums m.pipes), (27, .int .i64 ((↑m.pipes.n : Int))), (28, .int .i64 i)], [(0, .cells 30 m.e), (1, .cells 30 (sweepM m).e)]⟩ := by
  have hsw := keepF_le (goneQ m) m.pipes m.pipes.n
  have hsw : (sweptL m).n ≤ m.pipes.n := hsw
  intro k
  induction k with
  | zero =>
    intro i hi
    obtain rfl : i = m.pipes.n := by omega
    have l := ok.lim
    have a1 : SpecD Try.prog 57 [.agg ({ sweepM m with pipes := m.pipes } : Mac).e, .agg m.e] (.int .i64 1) := alike_spec m ok.sm
    have a2 : SpecD Try.prog 55 [.agg (sweepM m).e] (.agg (sweepM (sweepM m)).e) := sweep_spec (sweepM m) hn (Nat.le_trans hsw hln)
    obtain ⟨t1, t2⟩ := sweep_twice m hn
    have sm : MacSm (sweepM m) := ⟨ok.frames, ok.procs, Nat.le_trans hsw ok.pipes, ok.dirtys⟩
    have a3 : SpecD Try.prog 57 [.agg (sweepM (sweepM m)).e, .agg (sweepM m).e] (.int .i64 1) :=
      (alike_spec (sweepM m) sm).args (.cons (pipes_le (sweepM m) (sweptL m) t1 fun t ht => congrArg Num.e (t2 t (t1 ▸ ht))) <| .refl _)
    have a4 : SpecD Try.prog 44 [.agg (sweepM m).e] (.int .i64 0) := by
      have := ncheck_spec (sweepM m) ⟨l.frames, l.procs, Nat.le_trans hsw l.pipes, l.blocks, l.pendings, l.dirtys⟩
      rw [sweep_fine hck] at this; exact this
    apply w14_1 m (sweepM m) (sweepM (sweepM m)) true g e 0 1 1
    case c_fttt =>
      intro _ _ _ _
      exact ⟨a1, a2, a3, a4, Le.refl _⟩
    case c_fttf => intro _ _ _ h; simp at h
    case c_ftf => intro _ _ h; simp at h
    case c_ff =>
      intro _ h
      simp only [beq_eq_false_iff_ne] at h
      exact absurd rfl h
    case c_t => intro h; simp only [decide_eq_true_eq] at h; omega
  | succ k ih =>
    intro i hi
    have hb : (0 : Int) ≤ i ∧ (i : Int) < m.pipes.n := by omega
    apply w14_1 m (sweepM m) (sweepM (sweepM m)) true g e 0 1 1
    case c_t =>
      intro _
      refine ⟨hb, ?_⟩
      rw [Int.toNat_natCast]
      refine GoToE.reFr 7 (s' := .bool false) rfl (Le.tt _) ?_
      exact swept_pr m hn (sweepM (sweepM m)) true g e 0 1 1 (i := i) (by omega) hln (ih (i + 1) (by omega)) m.procs.n 0 false (by omega) rfl
    all_goals (intro h; simp only [decide_eq_false_iff_not] at h; omega)

theorem swept_spec (ok : MacOk m) : SpecD Try.prog 14 [.agg m.e] (.bool true) := by
  refine (specE_of (Try.func14) (by kernel_rfl) (by kernel_rfl) (by kernel_rfl) ?_).le
  obtain ⟨g, hg, hsm, hgs⟩ := great_small m ok
  have hck := check_spec m ok
  apply w14_0 m (sweepM m) m true g (checkF m) 0 0 0
  case c_t => intro h; cases h
  case c_ft => intro _ _; exact ⟨alive_spec, hgs, Le.tt true⟩
  case c_fft => intro _ _ _; exact ⟨alive_spec, hgs, hck, Le.tt true⟩
  case c_fff =>
    intro _ h1 h2
    simp only [beq_eq_false_iff_ne, bne_eq_false_iff_eq] at h1 h2
    have hg0 : g = 0 := by rcases hg with h | h <;> omega
    obtain ⟨b1, b2, b3, b4, b5⟩ := hsm hg0
    refine ⟨alive_spec, hgs, hck, sweep_spec m (by omega) (by omega), ?_⟩
    exact swept_at m ok (by omega) (by omega) h2 g 0 m.pipes.n 0 (by omega)
theorem swept_law (ok : MacOk m) : SpecD Try.prog 14 [.agg m.e] (.bool true) := swept_spec m ok
end
end Go.Hb
