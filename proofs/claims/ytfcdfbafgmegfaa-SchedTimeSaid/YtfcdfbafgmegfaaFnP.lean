/-
  THE FUNCTIONS, PART P: 'SchedTime' hands back true.
-/
import Derived.Test.YtfcdfbafgmegfaaFnO
import Derived.Test.YtfcdfbafgmegfaaWkY
namespace Go.Hb
open Go.RowKit Go.Proofs
set_option maxRecDepth 100000

/-- A process that waits for something. -/
def waitP (p : Prc) (why nn : Int) : Prc := ⟨fun j => if j = 2 then 2 else if j = 94 then why else if j = 95 then nn else p.n j, p.b⟩
theorem wait_cells (p : Prc) (n : Int) : splice (splice (splice p.e 2 [.int .i64 2]) 94 [.int .i64 5]) 95 [.int .u64 n] = (waitP p 5 n).e := rfl
theorem wait_cells' (p : Prc) (n : Int) : splice (splice (splice (splice (splice p.e 2 [.int .i64 2]) 94 [.int .i64 5]) 95 [.int .u64 n]) 94 [.int .i64 1]) 95 [.int .u64 0] = (waitP p 1 0).e := rfl
def timeL (m : Mac) (why nn : Int) : Sq Prc := ⟨m.procs.n, fun j => if j = 0 then waitP (m.procs.f 0) why nn else m.procs.f j⟩
def timeM (m : Mac) (why nn : Int) : Mac := { m with procs := timeL m why nn }

theorem time_tag (m : Mac) (l : Sq Prc) (c : Bool) {Q : V → Prop} (g : GoToE Try.prog 6 Q (cutOf Try.f6 9) ⟨92, 1000, [(3, .ptr 0 0), (7, .vec 1), (8, .bool c)], [(0, .cells 30 m.e), (1, .vec 47 96 l.n fun i => (l.f i).e)]⟩) :
    GoToE Try.prog 6 Q (cutOf Try.f6 9) ⟨92, 1000, [(3, .ptr 0 0), (7, .vec 1), (8, .tt c)], [(0, .cells 30 m.e), (1, .vec 47 96 l.n fun i => (l.f i).e)]⟩ := by
  obtain ⟨res, hq, g⟩ := g
  exact ⟨res, hq, GoTo.ent (obs := [Le (.ptr 0 0) (.ptr 0 0), Le (.vec 1) (.vec 1), Le (.tt c) (.bool c), LeB (.cells 30 m.e) (.cells 30 m.e), LeB (.vec 47 96 l.n fun i => (l.f i).e) (.vec 47 96 l.n fun i => (l.f i).e)]) rfl
    ⟨.refl _, .refl _, Le.tt c, LeB.refl _, LeB.refl _, trivial⟩ (by omega) g⟩

theorem time_c9 (m : Mac) (ok : MacOk m) (n : Int) (inp g : Bool) (h0 : 0 < m.procs.n) (h8 : m.procs.n ≤ 4096) (why nn : Int) (hnn : 0 ≤ nn) (w : Bool) (hw : couldB (timeM m why nn) (waitP (m.procs.f 0) why nn) = w) :
    GoToE Try.prog 6 (fun r => Le r (.bool true)) (cutOf Try.f6 9) ⟨92, 1000, [(3, .ptr 0 0), (7, .vec 1), (8, .bool w)], [(0, .cells 30 m.e), (1, .vec 47 96 (timeL m why nn).n fun i => ((timeL m why nn).f i).e)]⟩ := by
  have okp : PosN (timeM m why nn) := ⟨ok.procs, ok.pipes, fun i hi => by
    show 0 ≤ (if i = 0 then waitP (m.procs.f 0) why nn else m.procs.f i).n 95
    split
    · exact hnn
    · exact ok.posN.n i hi⟩
  have e0 : (timeL m why nn).f 0 = waitP (m.procs.f 0) why nn := rfl
  have hgo : goesF (timeM m why nn) (waitP (m.procs.f 0) why nn) = w := by
    unfold goesF
    rw [hw]
    rfl
  obtain ⟨k, hk⟩ : ∃ k, m.procs.n = k + 1 := ⟨m.procs.n - 1, by omega⟩
  have hfi : findI (timeM m why nn) (((timeL m why nn).f (Int.toNat 0)).n 0) = 0 := by
    show idxF (fun i => ((timeL m why nn).f i).n 0 == ((timeL m why nn).f 0).n 0) m.procs.n 0 = 0
    rw [hk]
    simp [idxF]
  have hco : couldF (timeM m why nn) (((timeL m why nn).f (Int.toNat 0)).n 0) = w := by
    unfold couldF
    rw [hfi]
    exact hgo
  have hwk := wake_spec (timeM m why nn) okp h8
  have hc27 := could27_spec (timeM m why nn) (((timeL m why nn).f (Int.toNat 0)).n 0) okp
  rw [hco] at hc27
  have hl0 : (0 : Int) ≤ 0 ∧ (0 : Int) < ((timeL m why nn).n : Int) := by show (0 : Int) ≤ 0 ∧ (0 : Int) < (m.procs.n : Int); omega
  have hx0 : (wakeM (timeM m why nn)).procs.f (Int.toNat 0) = wakeP (timeM m why nn) (waitP (m.procs.f 0) why nn) := by
    show (if 0 < m.procs.n then wakeP (timeM m why nn) ((timeL m why nn).f 0) else (timeL m why nn).f 0) = _
    rw [if_pos h0]; rfl
  apply w6_c9 m (wakeM (timeM m why nn)) n inp g true w (timeL m why nn) w
  case c_ttt =>
    intro _ _ _
    refine ⟨hwk, fixed_spec, hl0, hc27, hl0, ?_⟩
    rw [hx0]
    unfold wakeP
    rw [hgo]
    cases w with
    | true => exact Le.refl _
    | false => exact Le.refl _
  case c_ttf => intro _ _ h; rw [beq_eq_false_iff_ne] at h; exact absurd rfl h
  case c_tf => intro _ h; simp at h
  case c_f => intro h; cases h

theorem time_spec (m : Mac) (ok : MacOk m) (n : Int) (hn : (Lit.int .u64 n).wf = true) (inp : Bool) : SpecD Try.prog 6 [.agg m.e, .int .u64 n, .bool inp] (.bool true) := by
  refine (specE_of (Try.func6) (by kernel_rfl) (by kernel_rfl) (by kernel_rfl) ?_).le
  obtain ⟨g, hg, h⟩ := great27_spec m ok
  apply w6_0 m m n inp g true true
  case c_t => intro _; exact ⟨h, fixed_spec, Le.refl _⟩
  case c_ft => intro _ _; exact ⟨h, fixed_spec, Le.refl _⟩
  case c_fft => intro _ h1 _; rw [beq_eq_false_iff_ne] at h1; exact ⟨h, by omega, fixed_spec, Le.refl _⟩
  case c_fff =>
    intro hgf h1 _
    rw [beq_eq_false_iff_ne] at h1
    have hf := fine_of (hg hgf)
    have h0 : 0 < m.procs.n := by omega
    have h8 : m.procs.n ≤ 4096 := by have := hf.procs; omega
    refine ⟨h, by omega, lim568 h8, by omega, ?_⟩
    refine GoToE.reVec 1 (n' := m.procs.n) (g' := fun i => (m.procs.f i).e) rfl (Nat.zero_add _) (fun i hi => by simp [joinF]) ?_
    have hl0 : (0 : Int) ≤ 0 ∧ (0 : Int) < (m.procs.n : Int) := by omega
    have hl1 : Int.toNat 0 < m.procs.n := h0
    apply w6_c4 m m n inp g true true m.procs
    case c_f =>
      intro _
      refine ⟨hl0, hl1, hl0, hl1, hl0, hl1, ?_⟩
      refine GoToE.reVec 1 (n' := m.procs.n) (g' := fun i => ((timeL m 5 n).f i).e) rfl rfl (fun j hj => ?_) (time_c9 m ok n inp g h0 h8 5 n (u64_pos hn) _ rfl)
      show _ = (if j = 0 then waitP (m.procs.f 0) 5 n else m.procs.f j).e
      by_cases hj : j = 0
      · subst hj; simp only [Int.toNat_zero, eq_self, if_true]; exact wait_cells _ _
      · simp only [Int.toNat_zero, if_neg hj]
    case c_tt =>
      intro _ hi
      refine ⟨hl0, hl1, hl0, hl1, hl0, hl1, hl0, hl1, hl0, hl1, ?_⟩
      refine GoToE.reVec 1 (n' := m.procs.n) (g' := fun i => ((timeL m 1 0).f i).e) rfl rfl (fun j hj => ?_) (time_tag m (timeL m 1 0) true (time_c9 m ok n inp g h0 h8 1 0 (by omega) true (by
        show (!strEq m.inn ⟨#[]⟩ || m.endd) = true
        rw [show (!strEq m.inn ⟨#[]⟩) = true from hi, Bool.true_or])))
      show _ = (if j = 0 then waitP (m.procs.f 0) 1 0 else m.procs.f j).e
      by_cases hj : j = 0
      · subst hj; simp only [Int.toNat_zero, eq_self, if_true]; exact wait_cells' _ n
      · simp only [Int.toNat_zero, if_neg hj]
    case c_tf =>
      intro _ hi
      refine ⟨hl0, hl1, hl0, hl1, hl0, hl1, hl0, hl1, hl0, hl1, ?_⟩
      refine GoToE.reVec 1 (n' := m.procs.n) (g' := fun i => ((timeL m 1 0).f i).e) rfl rfl (fun j hj => ?_) (time_c9 m ok n inp g h0 h8 1 0 (by omega) m.endd (by
        show (!strEq m.inn ⟨#[]⟩ || m.endd) = m.endd
        rw [show (!strEq m.inn ⟨#[]⟩) = false from hi, Bool.false_or]))
      show _ = (if j = 0 then waitP (m.procs.f 0) 1 0 else m.procs.f j).e
      by_cases hj : j = 0
      · subst hj; simp only [Int.toNat_zero, eq_self, if_true]; exact wait_cells' _ n
      · simp only [Int.toNat_zero, if_neg hj]
end Go.Hb
