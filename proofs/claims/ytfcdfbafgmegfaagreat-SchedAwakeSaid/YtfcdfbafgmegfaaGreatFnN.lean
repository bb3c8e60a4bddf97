/-
  THE FUNCTIONS, PART N: who could go on; the machine in which they are awake; 'SchedWakes' hands back true.
-/
import Derived.Test.YtfcdfbafgmegfaaGreatFnM
import Derived.Test.YtfcdfbafgmegfaaGreatWkW
namespace Go.Hb
open Go.RowKit Go.Proofs
set_option maxRecDepth 100000

/-- Could a process that waits go on? -/
def couldB (m : Mac) (p : Prc) : Bool :=
  if p.n 94 = 1 then !strEq m.inn ⟨#[]⟩ || m.endd
  else if p.n 94 = 2 then !(pipeN m (p.n 95)).2 || (!strEq (pipeN m (p.n 95)).1.s ⟨#[]⟩ || (endsF m (pipeN m (p.n 95)).1.n).2 == 0)
  else if p.n 94 = 3 then !(pipeN m (p.n 95)).2 || (decide (((pipeN m (p.n 95)).1.s.size : Int) < 64) || (endsF m (pipeN m (p.n 95)).1.n).1 == 0)
  else if p.n 94 = 4 then childF m p
  else if p.n 94 = 5 then decide (m.clock ≥ p.n 95)
  else false
def goesF (m : Mac) (p : Prc) : Bool := p.n 2 == 2 && couldB m p

theorem Le.tt' {b c : Bool} (h : c = b) : Le (.tt b) (.bool c) := h ▸ Le.tt b

def whyF (y : Int) : Option Nat := if y = 1 then some 132 else if y = 2 then some 133 else if y = 3 then some 135 else if y = 4 then some 136 else if y = 5 then some 137 else none
theorem why_spec (y : Int) : SpecD Tryz.prog 85 [.int .i64 y] (fnV (whyF y)) := by
  by_cases h1 : y = 1
  · subst h1; exact (specE_of (Tryz.func85) (by kernel_rfl) (by kernel_rfl) (by kernel_rfl) (w121a_0 rfl)).eq
  by_cases h2 : y = 2
  · subst h2; exact (specE_of (Tryz.func85) (by kernel_rfl) (by kernel_rfl) (by kernel_rfl) (w121b_0 rfl)).eq
  by_cases h3 : y = 3
  · subst h3; exact (specE_of (Tryz.func85) (by kernel_rfl) (by kernel_rfl) (by kernel_rfl) (w121c_0 rfl)).eq
  by_cases h4 : y = 4
  · subst h4; exact (specE_of (Tryz.func85) (by kernel_rfl) (by kernel_rfl) (by kernel_rfl) (w121d_0 rfl)).eq
  by_cases h5 : y = 5
  · subst h5; exact (specE_of (Tryz.func85) (by kernel_rfl) (by kernel_rfl) (by kernel_rfl) (w121e_0 rfl)).eq
  have e : whyF y = none := by simp [whyF, h1, h2, h3, h4, h5]
  rw [e]
  refine (specE_of (Tryz.func85) (by kernel_rfl) (by kernel_rfl) (by kernel_rfl) (w121f_0 y ⟨?_, rfl⟩)).eq
  have e2 : setM (setM (setM (setM (setM (fun _ => none) 1 132) 2 133) 3 135) 4 136) 5 137 y = (none : Option Nat) := by simp [setM, h1, h2, h3, h4, h5]
  rw [e2]

theorem way_spec (m : Mac) (p : Prc) (hn : m.procs.n ≤ 140737488355328) (hq : m.pipes.n ≤ 140737488355328) (hp : 0 ≤ p.n 95) (g : Nat) (hg : whyF (p.n 94) = some g) : SpecD Tryz.prog g [.agg m.e, .agg p.e] (.bool (couldB m p)) := by
  have hpi := pipeN_spec m (p.n 95) hq
  have hen := ends50_spec m (pipeN m (p.n 95)).1.n hn
  unfold whyF at hg
  split at hg
  · rename_i h1
    cases hg
    have e : couldB m p = (!strEq m.inn ⟨#[]⟩ || m.endd) := by unfold couldB; rw [if_pos h1]
    rw [e]
    refine (specE_of (Tryz.func132) (by kernel_rfl) (by kernel_rfl) (by kernel_rfl) ?_).le
    apply w160_0 m p
    case c_t => intro h; exact Le.tt' (by rw [h, Bool.true_or])
    case c_f => intro h; rw [h, Bool.false_or]; exact Le.refl _
  · rename_i h1
    split at hg
    · rename_i h2
      cases hg
      have e : couldB m p = (!(pipeN m (p.n 95)).2 || (!strEq (pipeN m (p.n 95)).1.s ⟨#[]⟩ || (endsF m (pipeN m (p.n 95)).1.n).2 == 0)) := by unfold couldB; rw [if_neg h1, if_pos h2]
      rw [e]
      refine (specE_of (Tryz.func133) (by kernel_rfl) (by kernel_rfl) (by kernel_rfl) ?_).le
      apply w161_0 m p (pipeN m (p.n 95)).1 (pipeN m (p.n 95)).2 (endsF m (pipeN m (p.n 95)).1.n).1 (endsF m (pipeN m (p.n 95)).1.n).2
      case c_t => intro h; exact ⟨hpi, hen, Le.tt' (by rw [h, Bool.true_or])⟩
      case c_ft => intro h h'; exact ⟨hpi, hen, Le.tt' (by rw [h, h', Bool.true_or, Bool.or_true])⟩
      case c_ff => intro h h'; refine ⟨hpi, hen, ?_⟩; rw [h, h', Bool.false_or, Bool.false_or]; exact Le.refl _
    · rename_i h2
      split at hg
      · rename_i h3
        cases hg
        have e : couldB m p = (!(pipeN m (p.n 95)).2 || (decide (((pipeN m (p.n 95)).1.s.size : Int) < 64) || (endsF m (pipeN m (p.n 95)).1.n).1 == 0)) := by unfold couldB; rw [if_neg h1, if_neg h2, if_pos h3]
        rw [e]
        refine (specE_of (Tryz.func135) (by kernel_rfl) (by kernel_rfl) (by kernel_rfl) ?_).le
        apply w163_0 m p (pipeN m (p.n 95)).1 (pipeN m (p.n 95)).2 (endsF m (pipeN m (p.n 95)).1.n).1 (endsF m (pipeN m (p.n 95)).1.n).2
        case c_t => intro h; exact ⟨hpi, hen, Le.tt' (by rw [h, Bool.true_or])⟩
        case c_ft => intro h h'; exact ⟨hpi, hen, Le.tt' (by rw [h, h', Bool.true_or, Bool.or_true])⟩
        case c_ff => intro h h'; refine ⟨hpi, hen, ?_⟩; rw [h, h', Bool.false_or, Bool.false_or]; exact Le.refl _
      · rename_i h3
        split at hg
        · rename_i h4
          cases hg
          have e : couldB m p = childF m p := by unfold couldB; rw [if_neg h1, if_neg h2, if_neg h3, if_pos h4]
          rw [e]
          exact child_spec m p hn hp
        · rename_i h4
          split at hg
          · rename_i h5
            cases hg
            have e : couldB m p = decide (m.clock ≥ p.n 95) := by unfold couldB; rw [if_neg h1, if_neg h2, if_neg h3, if_neg h4, if_pos h5]
            rw [e]
            exact (specE_of (Tryz.func137) (by kernel_rfl) (by kernel_rfl) (by kernel_rfl) (w165_0 m p rfl)).eq
          · cases hg

theorem why_none {m : Mac} {p : Prc} (h : whyF (p.n 94) = none) : couldB m p = false := by
  unfold whyF at h
  unfold couldB
  split at h
  · cases h
  · rename_i h1
    split at h
    · cases h
    · rename_i h2
      split at h
      · cases h
      · rename_i h3
        split at h
        · cases h
        · rename_i h4
          split at h
          · cases h
          · rename_i h5
            rw [if_neg h1, if_neg h2, if_neg h3, if_neg h4, if_neg h5]

theorem goes_spec (m : Mac) (p : Prc) (hn : m.procs.n ≤ 140737488355328) (hq : m.pipes.n ≤ 140737488355328) (hp : 0 ≤ p.n 95) : SpecD Tryz.prog 46 [.agg m.e, .agg p.e] (.bool (goesF m p)) := by
  refine (specE_of (Tryz.func46) (by kernel_rfl) (by kernel_rfl) (by kernel_rfl) ?_).le
  have hs := why_spec (p.n 94)
  unfold goesF
  cases hw : whyF (p.n 94) with
  | none =>
    rw [hw] at hs
    rw [why_none hw, Bool.and_false]
    apply w70n_0 m p
    case c_t => intro _; exact ⟨hs, Le.tt false⟩
    case c_f => intro _; exact ⟨hs, Le.tt false⟩
  | some g =>
    rw [hw] at hs
    apply w70f_0 m p g (couldB m p)
    case c_t => intro h; refine ⟨hs, way_spec m p hn hq hp g hw, ?_⟩; rw [h, Bool.true_and]; exact Le.refl _
    case c_f => intro h; refine ⟨hs, ?_⟩; rw [h, Bool.false_and]; exact Le.tt false

/-- Could the process of a number go on? -/
def couldF (m : Mac) (pid : Int) : Bool := if findI m pid < 0 then false else goesF m (m.procs.f (findI m pid).toNat)
structure PosN (m : Mac) : Prop where
  procs : m.procs.n ≤ 140737488355328
  pipes : m.pipes.n ≤ 140737488355328
  n : ∀ i, i < m.procs.n → 0 ≤ (m.procs.f i).n 95
theorem u64_pos {n : Int} (h : (Lit.int .u64 n).wf = true) : 0 ≤ n := by
  simp [Lit.wf, IntKind.min, IntKind.max, IntKind.signed, IntKind.bits] at h
  omega
theorem MacOk.posN {m : Mac} (ok : MacOk m) : PosN m := ⟨ok.procs, ok.pipes, fun i hi => u64_pos (ok.proc i hi).n⟩
theorem could27_spec (m : Mac) (pid : Int) (ok : PosN m) : SpecD Tryz.prog 19 [.agg m.e, .int .i64 pid] (.bool (couldF m pid)) := by
  refine (specE_of (Tryz.func19) (by kernel_rfl) (by kernel_rfl) (by kernel_rfl) ?_).le
  have hf := find_spec m pid ok.procs
  have hix := @idxF_ok (fun i => (m.procs.f i).n 0 == pid) m.procs.n 0
  by_cases h0 : findI m pid < 0
  · rw [if_pos (show 0 > findI m pid from h0), decide_eq_false (show ¬ findI m pid ≥ 0 by omega)] at hf
    apply w27_0 m pid 0 false false
    case c_t => intro h; cases h
    case c_f => intro _; refine ⟨hf, Le.tt' ?_⟩; unfold couldF; rw [if_pos h0]
  · rw [if_neg (show ¬ 0 > findI m pid by omega), decide_eq_true (show findI m pid ≥ 0 by omega)] at hf
    have hlt : findI m pid < m.procs.n := by
      rcases hix with ⟨h1, _⟩ | ⟨j, h1, h2, h3, _⟩
      · exact absurd (show findI m pid < 0 by unfold findI; omega) h0
      · unfold findI; omega
    apply w27_0 m pid (findI m pid) true (goesF m (m.procs.f (findI m pid).toNat))
    case c_t => intro _; refine ⟨hf, by omega, goes_spec m _ ok.procs ok.pipes (ok.n _ (by omega)), ?_⟩; unfold couldF; rw [if_neg h0]; exact Le.refl _
    case c_f => intro h; cases h
/-- Awake. -/
def wokeP (p : Prc) : Prc := ⟨fun j => if j = 2 then 1 else if j = 94 then 0 else if j = 95 then 0 else p.n j, p.b⟩
theorem woke_cells (p : Prc) : splice (splice (splice p.e 2 [.int .i64 1]) 94 [.int .i64 0]) 95 [.int .u64 0] = (wokeP p).e := rfl
def wakeP (m : Mac) (p : Prc) : Prc := if goesF m p then wokeP p else p
def wakeI (m : Mac) (i : Nat) : Sq Prc := ⟨m.procs.n, fun j => if j < i then wakeP m (m.procs.f j) else m.procs.f j⟩
def wakeM (m : Mac) : Mac := { m with procs := wakeI m m.procs.n }
theorem wakeI_at (m : Mac) (i : Nat) : (wakeI m i).f i = m.procs.f i := by simp [wakeI]
theorem wakeI_step (m : Mac) (i j : Nat) : (wakeI m (i + 1)).f j = if j = i then wakeP m (m.procs.f i) else (wakeI m i).f j := by
  simp only [wakeI]
  by_cases h : j = i
  · subst h; simp
  · by_cases h2 : j < i
    · rw [if_neg h, if_pos (show j < i + 1 by omega), if_pos h2]
    · rw [if_neg h, if_neg (show ¬ j < i + 1 by omega), if_neg h2]
end Go.Hb
