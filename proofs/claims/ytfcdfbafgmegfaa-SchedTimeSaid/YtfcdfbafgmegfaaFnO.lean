/-
  THE FUNCTIONS, PART O: a row of processes cloned; the machine in which they are awake; 'SchedWakes' hands back true.
-/
import Derived.Test.YtfcdfbafgmegfaaFnN
namespace Go.Hb
open Go.RowKit Go.Proofs
set_option maxRecDepth 100000

theorem aget_one {B C : Box} {k : Nat} (h : aget [(0, B)] k = some C) : k = 0 ∧ C = B := by
  cases k with
  | zero => exact ⟨rfl, (Option.some.inj h).symm⟩
  | succ k => cases h

/-- A call's own row, told otherwise. -/
theorem SpecV.congr {P : Program} {f : FuncId} {args : List V} {ty sz n n' : Nat} {g g' : Nat → List V} (h : SpecV P f args ty sz n g) (hn : n = n') (hg : ∀ i, i < n → g i = g' i) : SpecV P f args ty sz n' g' := by
  subst hn
  refine ⟨h.1, fun E σ vals hm hf hs hc => (h.2 E σ vals hm hf hs hc).mono fun e w' hq => ?_⟩
  obtain ⟨v, σ', he, hk, hcv, hmem⟩ := hq
  have hb : ∀ b, badOf E σ' [(0, .vec ty sz n g)] b ↔ badOf E σ' [(0, .vec ty sz n g')] b := fun b => by
    constructor
    · rintro (h1 | ⟨k, B, h1, h2⟩)
      · exact .inl h1
      · obtain ⟨rfl, rfl⟩ := aget_one h1; exact .inr ⟨0, _, rfl, h2⟩
    · rintro (h1 | ⟨k, B, h1, h2⟩)
      · exact .inl h1
      · obtain ⟨rfl, rfl⟩ := aget_one h1; exact .inr ⟨0, _, rfl, h2⟩
  have hb' : badOf E σ' [(0, .vec ty sz n g)] = badOf E σ' [(0, .vec ty sz n g')] := funext fun b => propext (hb b)
  refine ⟨v, σ', he, hk, hb' ▸ hcv, ⟨fun k B hB => ?_, fun k B b hB => ?_, fun k k' B B' b hB hB' => ?_, hmem.os, hmem.tape, hmem.output, hmem.size, hmem.old, hmem.hbad⟩⟩
  · obtain ⟨rfl, rfl⟩ := aget_one hB
    exact hb' ▸ LeB.vec rfl hg _ _ _ _ (hmem.box 0 _ rfl)
  · obtain ⟨rfl, rfl⟩ := aget_one hB
    exact hmem.own 0 _ b rfl
  · obtain ⟨rfl, rfl⟩ := aget_one hB
    obtain ⟨rfl, rfl⟩ := aget_one hB'
    intros; rfl

/-- Nil is a row without anything. -/
theorem SpecV.of_nil {P : Program} {f : FuncId} {args : List V} {ty sz : Nat} {g : Nat → List V} (h : SpecD P f args .nilsl) : SpecV P f args ty sz 0 g := by
  refine ⟨h.1, fun E σ vals hm hf hs hc => (h.2 E σ vals hm hf hs hc).mono fun e w' hq => ?_⟩
  obtain ⟨v, σ', he, hk, hcv, hmem⟩ := hq
  obtain rfl : v = .slice none 0 0 := by
    cases hcv with
    | data h => cases h; rfl
  refine ⟨_, fun k => if k = 0 then some (.slice none 0 0) else σ' k, he, fun k hk => absurd hk (Nat.not_lt_zero k), .vec _ rfl, ⟨fun k B hB => ?_, fun k B b hB hb => ?_, fun k k' B B' b hB hB' hb => ?_, hmem.os, hmem.tape, hmem.output, hmem.size, hmem.old, hmem.hbad⟩⟩
  · obtain ⟨rfl, rfl⟩ := aget_one hB
    exact .vec (.slice none 0 0) [] rfl ⟨by simp, .inl ⟨rfl, rfl⟩⟩ (fun i hi => absurd hi (Nat.not_lt_zero i)) (fun i j s hi => absurd hi (Nat.not_lt_zero i))
  · obtain ⟨rfl, rfl⟩ := aget_one hB
    cases hb
  · obtain ⟨rfl, rfl⟩ := aget_one hB
    cases hb

theorem lim568 {n : Nat} (h : n ≤ 4096) : (0 + n) * 568 ≤ 140737488355328 ∧ 0 + n ≤ maxLen := by
  have : (65536 : Nat) ≤ maxLen := by decide
  omega

theorem clone_spec (l : Sq Prc) (hn : l.n ≤ 4096) : SpecV Try.prog 69 [prcs l] 47 96 l.n (fun i => (l.f i).e) := by
  obtain ⟨n, f⟩ := l
  by_cases h0 : n = 0
  · subst h0
    have h1 : SpecV Try.prog 69 [.nilsl] 47 96 0 (fun i => (f i).e) := SpecV.of_nil (specE_of (Try.func69) (by kernel_rfl) (by kernel_rfl) (by kernel_rfl) (w69n_0 rfl)).eq
    have h2 : SpecV Try.prog 69 [.esl] 47 96 0 (fun i => (f i).e) := by
      have h : SpecW Try.prog 69 [.esl] 47 96 (fun n _ => n = 0) := specW_of (Try.func69) (by kernel_rfl) (by kernel_rfl) (by kernel_rfl) (w69e_0 ⟨lim568 (n := 0) (by omega), by omega, rfl⟩)
      obtain ⟨n, g, rfl, h⟩ := h
      exact h.congr rfl fun i hi => absurd hi (Nat.not_lt_zero i)
    exact Spec.nil_or h1 h2
  · have h : SpecW Try.prog 69 [prcs ⟨n, f⟩] 47 96 (fun k g => k = n ∧ g = fun i => (f i).e) := specW_of (Try.func69) (by kernel_rfl) (by kernel_rfl) (by kernel_rfl)
      (w69_0 ⟨n, f⟩ ⟨by show 0 < n; omega, lim568 hn, by omega, by show 0 + n = n; omega, by funext i; simp [joinF]⟩)
    obtain ⟨k, g, ⟨rfl, rfl⟩, h⟩ := h
    exact h

theorem wakeI_n (m : Mac) (i : Nat) : (wakeI m i).n = m.procs.n := rfl
theorem wake_at (m : Mac) (ok : PosN m) : ∀ (k i : Nat), i + k = m.procs.n →
    GoToE Try.prog 25 (Eq (.agg (wakeM m).e)) (headOf Try.f25 0) ⟨35, 1000, [(1, .ptr 0 0), (2, .ptr 1 0), (3, .vec 2), (9, .vec 2), (10, .int .i64 ((wakeI m i).n : Int)), (11, .int .i64 i)], [(0, .cells 30 m.e), (1, .cells 30 [.int .u64 ((0 : Int)), .int .i64 ((0 : Int)), .int .i64 ((0 : Int)), .int .i64 ((0 : Int)), .nilsl, .nilsl, .int .i64 ((0 : Int)), .str ({ data := #[] : ByteArray }), .nilsl, .int .i64 ((0 : Int)), .str ({ data := #[] : ByteArray }), .tt false, .int .u64 ((0 : Int)), .nilsl, .nilsl, .int .i64 ((0 : Int)), .nilsl]), (2, .vec 47 96 (wakeI m i).n fun j => ((wakeI m i).f j).e)]⟩ := by
  intro k
  induction k with
  | zero =>
    intro i hi
    obtain rfl : i = m.procs.n := by omega
    apply w25_1 m (wakeI m m.procs.n) m.procs.n false
    case c_f => intro _; rfl
    all_goals (intro h; simp only [decide_eq_true_eq] at h; rw [wakeI_n] at h; omega)
  | succ k ih =>
    intro i hi
    have hw := wrap_succ (i := i) (n := m.procs.n) (by omega) ok.procs
    have hb : (0 : Int) ≤ i ∧ (i : Int) < ((wakeI m i).n : Int) := by show (0 : Int) ≤ i ∧ (i : Int) < (m.procs.n : Int); omega
    have hlt : (i : Int).toNat < (wakeI m i).n := by rw [Int.toNat_natCast]; show i < m.procs.n; omega
    have hs : SpecD Try.prog 70 [.agg m.e, .agg ((wakeI m i).f (i : Int).toNat).e] (.bool (goesF m (m.procs.f i))) := by rw [Int.toNat_natCast, wakeI_at]; exact goes_spec m _ ok.procs ok.pipes (ok.n i (by omega))
    apply w25_1 m (wakeI m i) i (goesF m (m.procs.f i))
    case c_f => intro h; simp only [decide_eq_false_iff_not] at h; rw [wakeI_n] at h; omega
    case c_tt =>
      intro _ hg
      refine ⟨hb, hlt, hs, hb, hlt, hb, hlt, hb, hlt, ?_⟩
      rw [hw]
      refine GoToE.reVec 2 (n' := m.procs.n) (g' := fun j => ((wakeI m (i + 1)).f j).e) rfl rfl (fun j hj => ?_) (ih (i + 1) (by omega))
      rw [Int.toNat_natCast, wakeI_step]
      by_cases hji : j = i
      · subst hji
        simp only [eq_self, if_true, wakeI_at]
        unfold wakeP
        rw [if_pos hg]
        exact woke_cells _
      · simp only [if_neg hji]
    case c_tf =>
      intro _ hg
      refine ⟨hb, hlt, hs, ?_⟩
      rw [hw]
      refine GoToE.reVec 2 (n' := m.procs.n) (g' := fun j => ((wakeI m (i + 1)).f j).e) rfl rfl (fun j hj => ?_) (ih (i + 1) (by omega))
      show ((wakeI m i).f j).e = ((wakeI m (i + 1)).f j).e
      rw [wakeI_step]
      by_cases hji : j = i
      · subst hji; rw [if_pos rfl, wakeI_at]; unfold wakeP; rw [hg]; rfl
      · rw [if_neg hji]
theorem wake_spec (m : Mac) (ok : PosN m) (h8 : m.procs.n ≤ 4096) : SpecD Try.prog 25 [.agg m.e] (.agg (wakeM m).e) := by
  refine (specE_of (Try.func25) (by kernel_rfl) (by kernel_rfl) (by kernel_rfl) ?_).eq
  refine w25_0 m ⟨clone_spec m.procs h8, ?_⟩
  refine GoToE.reVec 2 (n' := m.procs.n) (g' := fun j => ((wakeI m 0).f j).e) rfl rfl (fun j hj => ?_) (wake_at m ok m.procs.n 0 (by omega))
  show (m.procs.f j).e = ((wakeI m 0).f j).e
  simp [wakeI]

theorem rWake_at (m : Mac) (ok : PosN m) : ∀ (k i : Nat), i + k = m.procs.n →
    GoToE Try.prog 26 (Eq (.agg (wakeM m).e)) (headOf Try.f26 0) ⟨36, 1000, [(1, .ptr 0 0), (2, .ptr 1 0), (3, .vec 2), (4, .int .i64 i)], [(0, .cells 30 m.e), (1, .cells 30 [.int .u64 ((0 : Int)), .int .i64 ((0 : Int)), .int .i64 ((0 : Int)), .int .i64 ((0 : Int)), .nilsl, .nilsl, .int .i64 ((0 : Int)), .str ({ data := #[] : ByteArray }), .nilsl, .int .i64 ((0 : Int)), .str ({ data := #[] : ByteArray }), .tt false, .int .u64 ((0 : Int)), .nilsl, .nilsl, .int .i64 ((0 : Int)), .nilsl]), (2, .vec 47 96 (wakeI m i).n fun j => ((wakeI m i).f j).e)]⟩ := by
  intro k
  induction k with
  | zero =>
    intro i hi
    obtain rfl : i = m.procs.n := by omega
    apply w26_1 m (wakeI m m.procs.n) m.procs.n false
    case c_f => intro _; rfl
    all_goals (intro h; simp only [decide_eq_true_eq] at h; rw [wakeI_n] at h; omega)
  | succ k ih =>
    intro i hi
    have hw := wrap_succ (i := i) (n := m.procs.n) (by omega) ok.procs
    have hb : (0 : Int) ≤ i ∧ (i : Int) < ((wakeI m i).n : Int) := by show (0 : Int) ≤ i ∧ (i : Int) < (m.procs.n : Int); omega
    have hlt : (i : Int).toNat < (wakeI m i).n := by rw [Int.toNat_natCast]; show i < m.procs.n; omega
    have hs : SpecD Try.prog 71 [.agg m.e, .agg ((wakeI m i).f (i : Int).toNat).e] (.bool (goesF m (m.procs.f i))) := by rw [Int.toNat_natCast, wakeI_at]; exact rGoes_spec m _ ok.procs ok.pipes (ok.n i (by omega))
    apply w26_1 m (wakeI m i) i (goesF m (m.procs.f i))
    case c_f => intro h; simp only [decide_eq_false_iff_not] at h; rw [wakeI_n] at h; omega
    case c_tt =>
      intro _ hg
      refine ⟨hb, hlt, hs, hb, hlt, hb, hlt, hb, hlt, ?_⟩
      rw [hw]
      refine GoToE.reVec 2 (n' := m.procs.n) (g' := fun j => ((wakeI m (i + 1)).f j).e) rfl rfl (fun j hj => ?_) (ih (i + 1) (by omega))
      rw [Int.toNat_natCast, wakeI_step]
      by_cases hji : j = i
      · subst hji
        simp only [eq_self, if_true, wakeI_at]
        unfold wakeP
        rw [if_pos hg]
        exact woke_cells _
      · simp only [if_neg hji]
    case c_tf =>
      intro _ hg
      refine ⟨hb, hlt, hs, ?_⟩
      rw [hw]
      refine GoToE.reVec 2 (n' := m.procs.n) (g' := fun j => ((wakeI m (i + 1)).f j).e) rfl rfl (fun j hj => ?_) (ih (i + 1) (by omega))
      show ((wakeI m i).f j).e = ((wakeI m (i + 1)).f j).e
      rw [wakeI_step]
      by_cases hji : j = i
      · subst hji; rw [if_pos rfl, wakeI_at]; unfold wakeP; rw [hg]; rfl
      · rw [if_neg hji]
theorem rWake_spec (m : Mac) (ok : PosN m) (h8 : m.procs.n ≤ 4096) : SpecD Try.prog 26 [.agg m.e] (.agg (wakeM m).e) := by
  refine (specE_of (Try.func26) (by kernel_rfl) (by kernel_rfl) (by kernel_rfl) ?_).eq
  refine w26_0 m ⟨lim568 h8, by omega, ?_⟩
  refine GoToE.reVec 2 (n' := m.procs.n) (g' := fun j => ((wakeI m 0).f j).e) rfl (Nat.zero_add _) (fun j hj => ?_) (rWake_at m ok m.procs.n 0 (by omega))
  show (m.procs.f j).e = ((wakeI m 0).f j).e
  simp [wakeI]

theorem wakes_spec (m : Mac) (ok : MacOk m) (pid : Int) (_ : (Lit.int .i64 pid).wf = true) : SpecD Try.prog 5 [.agg m.e, .int .i64 pid] (.bool true) := by
  refine (specE_of (Try.func5) (by kernel_rfl) (by kernel_rfl) (by kernel_rfl) ?_).le
  obtain ⟨g, hg, h⟩ := great27_spec m ok
  apply w5_0 m (wakeM m) (wakeM m) pid g true true (couldF m pid) (couldF m pid)
  case c_t => intro _; exact ⟨h, fixed_spec, Le.refl _⟩
  case c_ftt =>
    intro h0 _ _
    have hf := fine_of (hg h0)
    have h8 : m.procs.n ≤ 4096 := by have := hf.procs; omega
    refine ⟨h, fixed_spec, wake_spec m ok.posN h8, rWake_spec m ok.posN h8, alike27_spec (wakeM m) ⟨ok.frames, ok.procs, ok.pipes, ok.dirtys⟩, could27_spec m pid ok.posN, could28_spec m pid ok.posN, ?_⟩
    rw [beq_self_eq_true]; exact Le.refl _
  case c_ftf => intro _ _ h; cases h
  case c_ff => intro _ h; cases h
end Go.Hb
