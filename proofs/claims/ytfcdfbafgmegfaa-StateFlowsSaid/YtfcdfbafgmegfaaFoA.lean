/-
  THE FUNCTIONS, PART OA: 'StateFlows' hands back true.
-/
import Derived.Test.YtfcdfbafgmegfaaFnZ
namespace Go.Hb
open Go.RowKit Go.Proofs
set_option maxRecDepth 100000

theorem aliveP (s : ByteArray) : pipeF (aliveM s) 1 = (⟨1, s⟩, true) := rfl
theorem flows_at (l : Sq ByteArray) (t : Sq Int) (hl : l.n ≤ 20) : ∀ (k i : Nat) (a o b : ByteArray), i + k = l.n → a = o ++ b → b.size ≤ 64 → a.size ≤ 300 * i →
    GoToE Try.prog 7 (fun r => Le r (.bool true)) (headOf Try.f7 0) ⟨121, 1000, [(1, bts t), (5, .ptr 0 0), (6, .int .i64 (1 : Int)), (7, .str a), (8, .str o), (28, strs l), (29, .int .i64 ((↑l.n : Int))), (30, .int .i64 i)], [(0, .cells 30 (aliveM b).e)]⟩ := by
  intro k
  induction k with
  | zero =>
    intro i a o b hi ha hb hs
    have hso : a.size = o.size + b.size := by rw [ha, size_app]
    have ht := atake_spec b 1000
    have e1 : takeN b 1000 = b.size := by unfold takeN; omega
    rw [e1, cut_none] at ht
    have e2 : b.extract 0 b.size = b := by simp
    rw [e2] at ht
    have hp := npipe_spec (aliveM ⟨#[]⟩) 1 (by show 1 ≤ _; omega)
    rw [aliveP] at hp
    have hse : strEq (o ++ b) a = true := by rw [ha, strEq_self]
    have hmx : ((o.size + b.size : Nat) : Int) ≤ IntKind.i64.max := by rw [i64max]; omega
    apply w7_1 l t true true bareM (aliveM b) (aliveM b) (aliveM ⟨#[]⟩) 1 0 b ⟨1, ⟨#[]⟩⟩ a o i
    case c_ftt =>
      intro _ _ _
      refine ⟨ht, hp, hmx, ?_⟩
      rw [show strEq (⟨1, ⟨#[]⟩⟩ : Num).s { data := #[] : ByteArray } = true from strEq_self _]
      exact Le.refl _
    case c_ftf => intro _ _ h; cases h
    case c_ff => intro _ h; rw [hse] at h; cases h
    all_goals (intro h; simp only [decide_eq_true_eq] at h; omega)
  | succ k ih =>
    intro i a o b hi ha hb hs
    have hw := wrap_succ (i := i) (n := l.n) (by omega) (by omega)
    have hbd : (0 : Int) ≤ i ∧ (i : Int) < l.n := by omega
    have hso : a.size = o.size + b.size := by rw [ha, size_app]
    by_cases hbig : (l.f i).size > 300
    · apply w7_1 l t true true bareM (aliveM b) (aliveM b) (aliveM ⟨#[]⟩) 1 0 b ⟨1, ⟨#[]⟩⟩ a o i
      case c_tt => intro _ _; exact ⟨hbd, Le.tt true⟩
      case c_ftt => intro h; simp only [decide_eq_false_iff_not] at h; omega
      case c_ftf => intro h; simp only [decide_eq_false_iff_not] at h; omega
      case c_ff => intro h; simp only [decide_eq_false_iff_not] at h; omega
      all_goals (intro _ h; simp only [Int.toNat_natCast, decide_eq_false_iff_not] at h; omega)
    · generalize hS : l.f i = S at hbig
      have hle : roomN b S ≤ S.size := Nat.min_le_left _ _
      have hrm : roomN b S < S.size → roomN b S = 64 - b.size := fun h => by unfold roomN at h ⊢; omega
      have hrl : b.size + roomN b S ≤ 64 := by unfold roomN; omega
      have hput := aput_spec b S hb (by omega)
      have hsz : (S.extract 0 (roomN b S)).size = roomN b S := by rw [cut_size _ _ _ hle, Nat.sub_zero]
      have htake := atake_spec (b ++ S.extract 0 (roomN b S)) ((IntKind.i64.wrap (t.f i)).tmod 80)
      generalize hB : b ++ S.extract 0 (roomN b S) = B at hput htake
      have hBs : B.size = b.size + roomN b S := by rw [← hB, size_app, hsz]
      generalize hK : takeN B ((IntKind.i64.wrap (t.f i)).tmod 80) = K at htake
      have hKl : K ≤ B.size := by rw [← hK]; exact Nat.min_le_right _ _
      have hcut : B.extract 0 K ++ B.extract K B.size = B := cut_join B K hKl
      have hTs : (B.extract 0 K).size = K := by rw [cut_size _ _ _ hKl, Nat.sub_zero]
      have hRs : (B.extract K B.size).size ≤ 64 := by rw [cut_size _ _ _ (Nat.le_refl _)]; omega
      have hA : a ++ S.extract 0 (roomN b S) = o ++ B := by rw [ha, ← hB, ByteArray.append_assoc]
      have hAs : (a ++ S.extract 0 (roomN b S)).size ≤ 300 * (i + 1) := by rw [size_app, hsz]; omega
      have hA2 : a ++ S.extract 0 (roomN b S) = (o ++ B.extract 0 K) ++ B.extract K B.size := by rw [hA, ByteArray.append_assoc, hcut]
      have n1 := ih (i + 1) _ _ _ (by omega) hA2 hRs hAs
      have n2 := ih (i + 1) _ _ _ (by omega) hA (by omega) hAs
      have hmx1 : ((a.size + (S.extract 0 (roomN b S)).size : Nat) : Int) ≤ IntKind.i64.max := by rw [i64max, hsz]; omega
      have hmx2 : ((o.size + (B.extract 0 K).size : Nat) : Int) ≤ IntKind.i64.max := by rw [i64max, hTs]; omega
      have hwr : roomN b S < S.size → IntKind.i64.wrap (IntKind.i64.wrap ((a.size : Int) + (roomN b S : Int)) - (o.size : Int)) = 64 := fun h => by
        rw [IntWalk.i64_in ((a.size : Int) + (roomN b S : Int)) (by omega), IntWalk.i64_in _ (by omega), hrm h]; omega
      apply w7_1 l t true true bareM (aliveM b) (aliveM B) (aliveM (B.extract K B.size)) 1 (roomN b S) (B.extract 0 K) ⟨1, ⟨#[]⟩⟩ a o i
      all_goals try rw [Int.toNat_natCast, hS]
      case c_tt => intro _ h; simp only [decide_eq_true_eq] at h; omega
      case c_tft => intro _ _ h; simp only [decide_eq_true_eq] at h; omega
      case c_tfft => intro _ _ _ h; simp only [decide_eq_true_eq] at h; omega
      case c_tffftt => intro _ _ _ _ h h2; simp only [decide_eq_true_eq] at h; rw [hwr (by omega)] at h2; simp at h2
      case c_tffftft =>
        intro _ _ _ _ _ _ h
        simp only [decide_eq_true_eq] at h
        rw [hw]
        simp only [Int.toNat_natCast, Int.toNat_zero]
        exact ⟨hbd, hput, by omega, by omega, hmx1, by omega, by omega, htake, hmx2, n1⟩
      case c_tffftff =>
        intro _ _ _ _ _ _ _
        rw [hw]
        simp only [Int.toNat_natCast, Int.toNat_zero]
        exact ⟨hbd, hput, by omega, by omega, hmx1, n2⟩
      case c_tfffft =>
        intro _ _ _ _ _ h
        simp only [decide_eq_true_eq] at h
        rw [hw]
        simp only [Int.toNat_natCast, Int.toNat_zero]
        exact ⟨hbd, hput, by omega, by omega, hmx1, by omega, by omega, htake, hmx2, n1⟩
      case c_tfffff =>
        intro _ _ _ _ _ _
        rw [hw]
        simp only [Int.toNat_natCast, Int.toNat_zero]
        exact ⟨hbd, hput, by omega, by omega, hmx1, n2⟩
      all_goals (intro h; simp only [decide_eq_false_iff_not] at h; omega)

theorem flows_spec (l : Sq ByteArray) (t : Sq Int) : SpecD Try.prog 7 [strs l, bts t] (.bool true) := by
  refine (specE_of (Try.func7) (by kernel_rfl) (by kernel_rfl) (by kernel_rfl) ?_).le
  apply w7_0 l t true true bareM (aliveM ⟨#[]⟩) (aliveM ⟨#[]⟩) (aliveM ⟨#[]⟩) 1 0 ⟨#[]⟩ ⟨1, ⟨#[]⟩⟩
  case c_t => intro h; cases h
  case c_ft => intro _ _; exact ⟨alive_spec, Le.tt true⟩
  case c_ff =>
    intro _ h
    simp only [decide_eq_false_iff_not] at h
    exact ⟨alive_spec, bare_spec, aopen_spec, flows_at l t (by omega) l.n 0 _ _ _ (by omega) (nil_app _).symm (by show 0 ≤ 64; omega) (Nat.zero_le _)⟩
end Go.Hb
