/-
  THE FUNCTIONS, PART S: layer 25's own 'pages' (a map is handed on) and 'procs'; they tell what the document's do.
-/
import Derived.Test.YtfcdfbafgmegfaaFnR
import Derived.Test.YtfcdfbafgmegfaaWkP
namespace Go.Hb
open Go.RowKit Go.Proofs

/-- Rows that are no longer than memory. -/
structure MacLim (m : Mac) : Prop where
  frames : m.frames.n ≤ 140737488355328
  procs : m.procs.n ≤ 140737488355328
  pipes : m.pipes.n ≤ 140737488355328
  blocks : m.drive.blocks.n ≤ 140737488355328
  pendings : m.drive.pending.n ≤ 140737488355328
  dirtys : m.dirty.n ≤ 140737488355328
theorem MacOk.lim {m : Mac} (ok : MacOk m) : MacLim m := ⟨ok.frames, ok.procs, ok.pipes, ok.blocks, ok.pendings, ok.dirtys⟩

theorem Spec.leM {P : Program} {f : FuncId} {m : Nat} {args : List V} {bx b1 : List (Nat × Box)} {r r' : V} (h : Spec P f m args bx r b1) (hle : Le r r') : Spec P f m args bx r' b1 := by
  refine ⟨h.1, fun E σ vals hm hσ hs hv => (h.2 E σ vals hm hσ hs hv).mono ?_⟩
  rintro e w' ⟨v, σ', h1, h2, h3, h4⟩
  exact ⟨v, σ', h1, h2, hle _ _ _ _ h3, h4⟩
theorem specM_le {P : Program} {f : FuncId} {m : Nat} {fn : Func} {args : List V} {bx : List (Nat × Box)} {r : V} {b1 : List (Nat × Box)} (hf : P.funcs[f]? = some fn) (hname : (fn.name == "runtime.NumGoroutine") = false) (hb : fn.body = some (bodyOf fn)) (hn : Nat.ble args.length fn.ntmps = true)
    (h : GoToM P f m (fun x y => Le x r ∧ y = b1) [.code (bodyOf fn)] (St0 fn m args bx)) : Spec P f m args bx r b1 := by
  obtain ⟨x, _, ⟨hle, rfl⟩, h⟩ := h
  exact (spec_of hf hname hb (Nat.le_of_ble_eq_true hn) h).leM hle

def pgFr (p : Prc) (j : Nat) : Int := p.n (22 + 3 * j)
def pgK (m : Mac) (p : Prc) : Nat → Nat → Nat → (Int → Option Bool) → Bool × Nat × (Int → Option Bool)
  | 0, _, c, f => (true, c, f)
  | k + 1, j, c, f =>
    if p.b (20 + 3 * j) = false then (if pteNone p j = false then (false, c, f) else pgK m p k (j + 1) c f)
    else if ¬ (0 ≤ pgFr p j ∧ pgFr p j ≤ (m.frames.n : Int) - 1) ∨ (f (pgFr p j)).getD false = true ∨ p.n 2 = 3 then (false, c, f)
    else pgK m p k (j + 1) (mapN c (f (pgFr p j))) (setM f (pgFr p j) true)

theorem pages_at (m : Mac) (p : Prc) (hn : m.frames.n ≤ 140737488355328) : ∀ (k j : Nat) (c : Nat) (f : Int → Option Bool), j + k = 16 →
    GoToM Try.prog 136 1 (fun x y => Le x (.bool (pgK m p k j c f).1) ∧ y = [(0, .mapB (pgK m p k j c f).2.1 (pgK m p k j c f).2.2)]) (headOf Try.f136 0)
      ⟨51, 1000, [(2, .map 0), (3, .ptr 1 0), (4, .ptr 2 0), (10, .agg p.space), (11, .int .i64 j)], [(0, .mapB c f), (1, .cells 30 m.e), (2, .cells 47 p.e)]⟩ := by
  intro k
  induction k with
  | zero =>
    intro j c f hj
    apply w136_1 m p false c f j
    case c_f => intro _; exact ⟨Le.tt true, rfl⟩
    all_goals (intro h; simp only [decide_eq_true_eq] at h; omega)
  | succ k ih =>
    intro j c f hj
    have hw := wrap_succ (i := j) (n := 16) (by omega) (by omega)
    have hb : (0 : Int) ≤ j ∧ (j : Int) < ((16 : Nat) : Int) := by omega
    have hl : (j : Int).toNat * 3 + 3 ≤ p.space.length := by simp only [Int.toNat_natCast]; show j * 3 + 3 ≤ 48; omega
    have hp : (V.agg (p.pte (j : Int).toNat) : V) = .agg (List.take 3 (List.drop ((j : Int).toNat * 3) p.space)) := by simp only [Int.toNat_natCast]; rw [pte_ok _ (by omega)]
    have hr := pteNone_run p j
    have hwr : IntKind.i64.wrap ((m.frames.n : Int) - 1) = (m.frames.n : Int) - 1 := IntWalk.i64_in _ (by omega)
    have hwi := within_spec (pgFr p j) 0 ((m.frames.n : Int) - 1)
    have stop1 : p.b (20 + 3 * j) = false → pteNone p j = false → pgK m p (k + 1) j c f = (false, c, f) := fun h1 h2 => by simp only [pgK]; rw [if_pos h1, if_pos h2]
    have go1 : p.b (20 + 3 * j) = false → pteNone p j = true → pgK m p (k + 1) j c f = pgK m p k (j + 1) c f := fun h1 h2 => by simp only [pgK]; rw [if_pos h1, if_neg (by rw [h2]; simp)]
    have stop2 : p.b (20 + 3 * j) = true → (¬ (0 ≤ pgFr p j ∧ pgFr p j ≤ (m.frames.n : Int) - 1) ∨ (f (pgFr p j)).getD false = true ∨ p.n 2 = 3) → pgK m p (k + 1) j c f = (false, c, f) := fun h1 h2 => by
      simp only [pgK]; rw [if_neg (by rw [h1]; simp), if_pos h2]
    have go2 : p.b (20 + 3 * j) = true → ¬ (¬ (0 ≤ pgFr p j ∧ pgFr p j ≤ (m.frames.n : Int) - 1) ∨ (f (pgFr p j)).getD false = true ∨ p.n 2 = 3) → pgK m p (k + 1) j c f = pgK m p k (j + 1) (mapN c (f (pgFr p j))) (setM f (pgFr p j) true) := fun h1 h2 => by
      simp only [pgK]; rw [if_neg (by rw [h1]; simp), if_neg h2]
    apply w136_1 m p (decide (0 ≤ pgFr p j ∧ pgFr p j ≤ (m.frames.n : Int) - 1)) c f j
    case c_f => intro h; simp only [decide_eq_false_iff_not] at h; omega
    case c_ttt =>
      intro _ h1 h2
      simp only [Int.toNat_natCast, Bool.not_eq_true'] at h1 h2
      rw [stop1 h1 h2]; exact ⟨hb, hl, hp, hr, Le.tt false, rfl⟩
    case c_ttf =>
      intro _ h1 h2
      simp only [Int.toNat_natCast, Bool.not_eq_true', Bool.not_eq_false'] at h1 h2
      rw [go1 h1 h2, hw]; exact ⟨hb, hl, hp, hr, ih (j + 1) c f (by omega)⟩
    case c_tft =>
      intro _ h1 h2
      simp only [Int.toNat_natCast, Bool.not_eq_true', Bool.not_eq_false', decide_eq_false_iff_not] at h1 h2
      rw [stop2 h1 (.inl h2), hwr]; exact ⟨hb, hl, hp, hwi, Le.tt false, rfl⟩
    case c_tfft =>
      intro _ h1 _ h2
      simp only [Int.toNat_natCast, Bool.not_eq_false'] at h1 h2
      rw [stop2 h1 (.inr (.inl h2)), hwr]; exact ⟨hb, hl, hp, hwi, Le.tt false, rfl⟩
    case c_tffft =>
      intro _ h1 _ _ h2
      simp only [Int.toNat_natCast, Bool.not_eq_false', beq_iff_eq] at h1 h2
      rw [stop2 h1 (.inr (.inr h2)), hwr]; exact ⟨hb, hl, hp, hwi, Le.tt false, rfl⟩
    case c_tffff =>
      intro _ h1 h2 h3 h4
      simp only [Int.toNat_natCast, Bool.not_eq_false', beq_eq_false_iff_ne, decide_eq_true_eq] at h1 h2 h3 h4
      rw [go2 h1 (by rintro (h | h | h); exact h h2; exact absurd (h.symm.trans h3) (by simp); exact h4 h), hwr, hw]
      exact ⟨hb, hl, hp, hwi, ih (j + 1) _ _ (by omega)⟩

theorem pages_spec (m : Mac) (p : Prc) (hn : m.frames.n ≤ 140737488355328) (c : Nat) (f : Int → Option Bool) :
    Spec Try.prog 136 1 [.agg m.e, .agg p.e, .map 0] [(0, .mapB c f)] (.bool (pgK m p 16 0 c f).1) [(0, .mapB (pgK m p 16 0 c f).2.1 (pgK m p 16 0 c f).2.2)] :=
  specM_le (Try.func136) (by kernel_rfl) (by kernel_rfl) (by kernel_rfl) (w136_0 m p false c f (pages_at m p hn 16 0 c f (by omega)))

/-- All processes. -/
def psK (m : Mac) : Nat → Nat → Nat → (Int → Option Bool) → Bool
  | 0, _, _, _ => true
  | k + 1, i, c, f => if (0 < i ∧ (m.procs.f (i - 1)).n 0 ≥ (m.procs.f i).n 0) ∨ sProc m (m.procs.f i) = false ∨ (pgK m (m.procs.f i) 16 0 c f).1 = false then false
    else psK m k (i + 1) (pgK m (m.procs.f i) 16 0 c f).2.1 (pgK m (m.procs.f i) 16 0 c f).2.2

theorem procs_at (m : Mac) (ok : MacLim m) (hx : 1 ≤ m.next ∧ m.next ≤ 1000000000) : ∀ (k i : Nat) (c : Nat) (f : Int → Option Bool), i + k = m.procs.n →
    GoToE Try.prog 88 (fun x => Le x (.bool (psK m k i c f))) (headOf Try.f88 0) ⟨43, 1000, [(1, .ptr 0 0), (3, .map 1), (8, prcs m.procs), (9, .int .i64 ((↑m.procs.n : Int))), (10, .int .i64 i)], [(0, .cells 30 m.e), (1, .mapB c f)]⟩ := by
  have hn := ok.procs
  intro k
  induction k with
  | zero =>
    intro i c f hi
    apply w88_1 m c f c f false false i
    case c_f => intro _; exact Le.tt true
    all_goals (intro h; simp only [decide_eq_true_eq] at h; omega)
  | succ k ih =>
    intro i c f hi
    have hw := wrap_succ (i := i) (n := m.procs.n) (by omega) hn
    have hbd : (0 : Int) ≤ i ∧ (i : Int) < m.procs.n := by omega
    have hpr := pred_cast (i := i) hn (by omega)
    have hs := sproc_spec m (m.procs.f i) ok.procs ok.pipes hx
    have hg := pages_spec m (m.procs.f i) ok.frames c f
    have stop : ((0 < i ∧ (m.procs.f (i - 1)).n 0 ≥ (m.procs.f i).n 0) ∨ sProc m (m.procs.f i) = false ∨ (pgK m (m.procs.f i) 16 0 c f).1 = false) → Le (.tt false) (.bool (psK m (k + 1) i c f)) := fun h => by
      simp only [psK]; rw [if_pos h]; exact Le.tt false
    have go : ¬ ((0 < i ∧ (m.procs.f (i - 1)).n 0 ≥ (m.procs.f i).n 0) ∨ sProc m (m.procs.f i) = false ∨ (pgK m (m.procs.f i) 16 0 c f).1 = false) → psK m (k + 1) i c f = psK m k (i + 1) (pgK m (m.procs.f i) 16 0 c f).2.1 (pgK m (m.procs.f i) 16 0 c f).2.2 := fun h => by
      simp only [psK]; rw [if_neg h]
    apply w88_1 m c f (pgK m (m.procs.f i) 16 0 c f).2.1 (pgK m (m.procs.f i) 16 0 c f).2.2 (sProc m (m.procs.f i)) (pgK m (m.procs.f i) 16 0 c f).1 i
    case c_f => intro h; simp only [decide_eq_false_iff_not] at h; omega
    case c_ttt =>
      intro _ h1 h
      simp only [decide_eq_true_eq] at h1 h
      have h0 : 0 < i := by omega
      rw [hpr h0] at h ⊢
      simp only [Int.toNat_natCast] at h
      exact ⟨hbd, by omega, stop (.inl ⟨h0, h⟩)⟩
    case c_ttft =>
      intro _ h1 _ h
      simp only [decide_eq_true_eq, Bool.not_eq_true'] at h1 h
      have h0 : 0 < i := by omega
      rw [hpr h0]
      exact ⟨hbd, by omega, hs, stop (.inr (.inl h))⟩
    case c_ttfft =>
      intro _ h1 _ _ h
      simp only [decide_eq_true_eq, Bool.not_eq_true'] at h1 h
      have h0 : 0 < i := by omega
      rw [hpr h0]
      exact ⟨hbd, by omega, hs, hg, stop (.inr (.inr h))⟩
    case c_ttfff =>
      intro _ h1 h2 h3 h
      simp only [decide_eq_true_eq, decide_eq_false_iff_not, Bool.not_eq_false'] at h1 h2 h3 h
      have h0 : 0 < i := by omega
      rw [hpr h0] at h2 ⊢
      simp only [Int.toNat_natCast] at h2
      refine ⟨hbd, by omega, hs, hg, ?_⟩
      rw [hw, go (by rintro (⟨_, h4⟩ | h4 | h4); exact h2 h4; rw [h3] at h4; cases h4; rw [h] at h4; cases h4)]; exact ih (i + 1) _ _ (by omega)
    case c_tft =>
      intro _ h1 h
      simp only [Bool.not_eq_true'] at h
      exact ⟨hbd, hs, stop (.inr (.inl h))⟩
    case c_tfft =>
      intro _ h1 _ h
      simp only [Bool.not_eq_true'] at h
      exact ⟨hbd, hs, hg, stop (.inr (.inr h))⟩
    case c_tfff =>
      intro _ h1 h3 h
      simp only [decide_eq_false_iff_not, Bool.not_eq_false'] at h1 h3 h
      refine ⟨hbd, hs, hg, ?_⟩
      rw [hw, go (by rintro (⟨h4, _⟩ | h4 | h4); omega; rw [h3] at h4; cases h4; rw [h] at h4; cases h4)]; exact ih (i + 1) _ _ (by omega)

theorem procs_spec (m : Mac) (ok : MacLim m) (hx : 1 ≤ m.next ∧ m.next ≤ 1000000000) : SpecD Try.prog 88 [.agg m.e] (.bool (psK m m.procs.n 0 0 fun _ => none)) :=
  (specE_of (Try.func88) (by kernel_rfl) (by kernel_rfl) (by kernel_rfl) (w88_0 m 0 (fun _ => none) 0 (fun _ => none) false false (procs_at m ok hx m.procs.n 0 0 (fun _ => none) (by omega)))).le

/-- The frames that a process's pages have. -/
def frs (p : Prc) : Nat → Nat → List Int
  | 0, _ => []
  | k + 1, j => if p.b (20 + 3 * j) = true then pgFr p j :: frs p k (j + 1) else frs p k (j + 1)
def allFrs (m : Mac) : Nat → Nat → List Int
  | 0, _ => []
  | k + 1, i => frs (m.procs.f i) 16 0 ++ allFrs m k (i + 1)
theorem pagesN_count (p : Prc) (y : Int) : ∀ k j, pagesN p y k j = (frs p k j).count y
  | 0, _ => rfl
  | k + 1, j => by
    simp only [pagesN, frs, pagesN_count p y k (j + 1)]
    by_cases h : p.b (20 + 3 * j) = true
    · rw [if_pos h, List.count_cons, Nat.add_comm]
      have : pageHas p y j = (pgFr p j == y) := by simp only [pageHas, h, Bool.true_and]; rfl
      rw [this]
    · rw [if_neg h, if_neg (by simp only [pageHas, h]; simp), Nat.zero_add]
theorem usersK_count (m : Mac) (y : Int) : ∀ k i, usersK m y k i = (allFrs m k i).count y
  | 0, _ => rfl
  | k + 1, i => by simp only [usersK, allFrs, List.count_append, pagesN_count, usersK_count m y k (i + 1)]

/-- What a page must be by itself. -/
def pgL (m : Mac) (p : Prc) (j : Nat) : Prop := if p.b (20 + 3 * j) = true then 0 ≤ pgFr p j ∧ pgFr p j ≤ (m.frames.n : Int) - 1 ∧ p.n 2 ≠ 3 else pteNone p j = true

theorem pgK_ok (m : Mac) (p : Prc) : ∀ (k j c : Nat) (f : Int → Option Bool) (M : List Int), (∀ y, (f y).getD false = true ↔ y ∈ M) →
    ((pgK m p k j c f).1 = true ↔ (∀ t, j ≤ t → t < j + k → pgL m p t) ∧ (frs p k j).Nodup ∧ ∀ y ∈ frs p k j, y ∉ M) ∧ ((pgK m p k j c f).1 = true → ∀ y, ((pgK m p k j c f).2.2 y).getD false = true ↔ y ∈ M ++ frs p k j)
  | 0, j, c, f, M, hM => by
    refine ⟨⟨fun _ => ⟨fun t h1 h2 => by omega, by simp [frs], by simp [frs]⟩, fun _ => rfl⟩, fun _ y => ?_⟩
    simp only [frs, List.append_nil]; exact hM y
  | k + 1, j, c, f, M, hM => by
    have hsplit : (∀ t, j ≤ t → t < j + (k + 1) → pgL m p t) ↔ pgL m p j ∧ ∀ t, j + 1 ≤ t → t < j + 1 + k → pgL m p t := by
      refine ⟨fun h => ⟨h j (by omega) (by omega), fun t h1 h2 => h t (by omega) (by omega)⟩, fun h t h1 h2 => ?_⟩
      by_cases ht : t = j
      · subst ht; exact h.1
      · exact h.2 t (by omega) (by omega)
    rw [hsplit]
    by_cases hb : p.b (20 + 3 * j) = true
    · have e1 : frs p (k + 1) j = pgFr p j :: frs p k (j + 1) := by rw [frs, if_pos hb]
      rw [e1]
      by_cases hc : ¬ (0 ≤ pgFr p j ∧ pgFr p j ≤ (m.frames.n : Int) - 1) ∨ (f (pgFr p j)).getD false = true ∨ p.n 2 = 3
      · have e2 : pgK m p (k + 1) j c f = (false, c, f) := by simp only [pgK]; rw [if_neg (by rw [hb]; simp), if_pos hc]
        rw [e2]
        refine ⟨⟨fun h => (by cases h), fun ⟨⟨h1, _⟩, _, h2⟩ => ?_⟩, fun h => by cases h⟩
        unfold pgL at h1
        rw [if_pos hb] at h1
        rcases hc with hc | hc | hc
        · exact absurd ⟨h1.1, h1.2.1⟩ hc
        · exact absurd ((hM _).1 hc) (h2 _ (by simp))
        · exact absurd hc h1.2.2
      · have e2 : pgK m p (k + 1) j c f = pgK m p k (j + 1) (mapN c (f (pgFr p j))) (setM f (pgFr p j) true) := by simp only [pgK]; rw [if_neg (by rw [hb]; simp), if_neg hc]
        rw [e2]
        have hM' : ∀ y, ((setM f (pgFr p j) true) y).getD false = true ↔ y ∈ M ++ [pgFr p j] := by
          intro y
          unfold setM
          by_cases hy : y = pgFr p j
          · rw [if_pos hy]; simp [hy]
          · rw [if_neg hy, hM y]; simp [hy]
        obtain ⟨g1, g2⟩ := pgK_ok m p k (j + 1) (mapN c (f (pgFr p j))) _ _ hM'
        refine ⟨?_, fun h y => ?_⟩
        · rw [g1, List.nodup_cons]
          have hl : pgL m p j := by
            unfold pgL; rw [if_pos hb]
            exact ⟨by omega, by omega, fun h => hc (.inr (.inr h))⟩
          have hnm : pgFr p j ∉ M := fun h => hc (.inr (.inl ((hM _).2 h)))
          refine ⟨fun ⟨h1, h2, h3⟩ => ⟨⟨hl, h1⟩, ⟨fun h => h3 _ h (by simp), h2⟩, fun y hy => ?_⟩, fun ⟨⟨_, h1⟩, ⟨h4, h2⟩, h3⟩ => ⟨h1, h2, fun y hy hm => ?_⟩⟩
          · rcases List.mem_cons.1 hy with rfl | hy
            · exact hnm
            · exact fun hm => h3 y hy (by simp [hm])
          · rcases List.mem_append.1 hm with hm | hm
            · exact h3 y (by simp [hy]) hm
            · simp at hm; subst hm; exact h4 hy
        · rw [g2 h y]; simp [List.append_assoc]
    · have e1 : frs p (k + 1) j = frs p k (j + 1) := by rw [frs, if_neg hb]
      have hb' : p.b (20 + 3 * j) = false := by simpa using hb
      rw [e1]
      obtain ⟨g1, g2⟩ := pgK_ok m p k (j + 1) c f M hM
      cases hp : pteNone p j with
      | false =>
        have e2 : pgK m p (k + 1) j c f = (false, c, f) := by simp only [pgK]; rw [if_pos hb', if_pos hp]
        rw [e2]
        refine ⟨⟨fun h => (by cases h), fun ⟨⟨h1, _⟩, _⟩ => ?_⟩, fun h => by cases h⟩
        unfold pgL at h1
        rw [if_neg hb, hp] at h1; cases h1
      | true =>
        have e2 : pgK m p (k + 1) j c f = pgK m p k (j + 1) c f := by simp only [pgK]; rw [if_pos hb', if_neg (by rw [hp]; simp)]
        rw [e2]
        have hl : pgL m p j := by unfold pgL; rw [if_neg hb]; exact hp
        exact ⟨g1.trans ⟨fun ⟨h1, h2⟩ => ⟨⟨hl, h1⟩, h2⟩, fun ⟨⟨_, h1⟩, h2⟩ => ⟨h1, h2⟩⟩, g2⟩

def rise (m : Mac) (i : Nat) : Prop := 0 < i → (m.procs.f (i - 1)).n 0 < (m.procs.f i).n 0
theorem psK_ok (m : Mac) : ∀ (k i c : Nat) (f : Int → Option Bool) (M : List Int), (∀ y, (f y).getD false = true ↔ y ∈ M) →
    (psK m k i c f = true ↔ (∀ t, i ≤ t → t < i + k → rise m t ∧ sProc m (m.procs.f t) = true ∧ ∀ j, j < 16 → pgL m (m.procs.f t) j) ∧ (allFrs m k i).Nodup ∧ ∀ y ∈ allFrs m k i, y ∉ M)
  | 0, i, c, f, M, hM => ⟨fun _ => ⟨fun t h1 h2 => by omega, by simp [allFrs], by simp [allFrs]⟩, fun _ => rfl⟩
  | k + 1, i, c, f, M, hM => by
    have hsplit : ∀ q : Nat → Prop, (∀ t, i ≤ t → t < i + (k + 1) → q t) ↔ q i ∧ ∀ t, i + 1 ≤ t → t < i + 1 + k → q t := by
      intro q
      refine ⟨fun h => ⟨h i (by omega) (by omega), fun t h1 h2 => h t (by omega) (by omega)⟩, fun h t h1 h2 => ?_⟩
      by_cases ht : t = i
      · subst ht; exact h.1
      · exact h.2 t (by omega) (by omega)
    rw [hsplit fun t => rise m t ∧ sProc m (m.procs.f t) = true ∧ ∀ j, j < 16 → pgL m (m.procs.f t) j]
    obtain ⟨g1, g2⟩ := pgK_ok m (m.procs.f i) 16 0 c f M hM
    have hL : (∀ t, 0 ≤ t → t < 0 + 16 → pgL m (m.procs.f i) t) ↔ ∀ j, j < 16 → pgL m (m.procs.f i) j := ⟨fun h j hj => h j (Nat.zero_le _) (by omega), fun h t _ h2 => h t (by omega)⟩
    rw [hL] at g1
    have e1 : allFrs m (k + 1) i = frs (m.procs.f i) 16 0 ++ allFrs m k (i + 1) := rfl
    rw [e1, List.nodup_append]
    by_cases hc : (0 < i ∧ (m.procs.f (i - 1)).n 0 ≥ (m.procs.f i).n 0) ∨ sProc m (m.procs.f i) = false ∨ (pgK m (m.procs.f i) 16 0 c f).1 = false
    · have e2 : psK m (k + 1) i c f = false := by simp only [psK]; rw [if_pos hc]
      rw [e2]
      refine ⟨fun h => (by cases h), fun ⟨⟨⟨h1, h2, h3⟩, _⟩, ⟨h4, _, _⟩, h5⟩ => ?_⟩
      exfalso
      rcases hc with ⟨hc1, hc2⟩ | hc | hc
      · have := h1 hc1; omega
      · rw [h2] at hc; cases hc
      · rw [g1.2 ⟨h3, h4, fun y hy => h5 y (by simp [hy])⟩] at hc; cases hc
    · have hpg : (pgK m (m.procs.f i) 16 0 c f).1 = true := by
        cases h : (pgK m (m.procs.f i) 16 0 c f).1 with
        | true => rfl
        | false => exact absurd (.inr (.inr h)) hc
      have hsp : sProc m (m.procs.f i) = true := by
        cases h : sProc m (m.procs.f i) with
        | true => rfl
        | false => exact absurd (.inr (.inl h)) hc
      have hri : rise m i := fun h0 => by
        have : ¬ ((m.procs.f (i - 1)).n 0 ≥ (m.procs.f i).n 0) := fun h => hc (.inl ⟨h0, h⟩)
        omega
      have e2 : psK m (k + 1) i c f = psK m k (i + 1) (pgK m (m.procs.f i) 16 0 c f).2.1 (pgK m (m.procs.f i) 16 0 c f).2.2 := by simp only [psK]; rw [if_neg hc]
      rw [e2, psK_ok m k (i + 1) _ _ _ (g2 hpg)]
      obtain ⟨k1, k2, k3⟩ := g1.1 hpg
      refine ⟨fun ⟨h1, h2, h3⟩ => ⟨⟨⟨hri, hsp, k1⟩, h1⟩, ⟨k2, h2, fun a ha b hb hab => ?_⟩, fun y hy => ?_⟩, fun ⟨⟨_, h1⟩, ⟨_, h2, h3⟩, h4⟩ => ⟨h1, h2, fun y hy hm => ?_⟩⟩
      · subst hab; exact h3 a hb (by simp [ha])
      · rcases List.mem_append.1 hy with hy | hy
        · exact k3 y hy
        · exact fun hm => h3 y hy (by simp [hm])
      · rcases List.mem_append.1 hm with hm | hm
        · exact h4 y (by simp [hy]) hm
        · exact h3 y hm y hy rfl
end Go.Hb
