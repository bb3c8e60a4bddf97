/-
  THE FUNCTIONS, PART Z: layer 25's Open, Put, Take; its example; 'StateFlows' hands back true.
-/
import Derived.Test.YtfcdfbafgmegfaaFnX
import Derived.Test.YtfcdfbafgmegfaaLaG
import Derived.Test.YtfcdfbafgmegfaaWkQ
namespace Go.Hb
open Go.RowKit Go.Proofs
set_option maxRecDepth 100000

theorem cloneN_spec (l : Sq Num) (hn : l.n ≤ 4096) : SpecV Try.prog 72 [nums l] 59 2 l.n (fun i => (l.f i).e) := by
  obtain ⟨n, f⟩ := l
  have hlim : ∀ n, n ≤ 4096 → (0 + n) * 24 ≤ 140737488355328 ∧ 0 + n ≤ maxLen := fun n h => by
    have : (65536 : Nat) ≤ maxLen := by decide
    omega
  by_cases h0 : n = 0
  · subst h0
    have h1 : SpecV Try.prog 72 [.nilsl] 59 2 0 (fun i => (f i).e) := SpecV.of_nil (specE_of (Try.func72) (by kernel_rfl) (by kernel_rfl) (by kernel_rfl) (w72n_0 rfl)).eq
    have h2 : SpecV Try.prog 72 [.esl] 59 2 0 (fun i => (f i).e) := by
      have h : SpecW Try.prog 72 [.esl] 59 2 (fun n _ => n = 0) := specW_of (Try.func72) (by kernel_rfl) (by kernel_rfl) (by kernel_rfl) (w72e_0 ⟨hlim 0 (by omega), by omega, rfl⟩)
      obtain ⟨n, g, rfl, h⟩ := h
      exact h.congr rfl fun i hi => absurd hi (Nat.not_lt_zero i)
    exact Spec.nil_or h1 h2
  · have h : SpecW Try.prog 72 [nums ⟨n, f⟩] 59 2 (fun k g => k = n ∧ g = fun i => (f i).e) := specW_of (Try.func72) (by kernel_rfl) (by kernel_rfl) (by kernel_rfl)
      (w72_0 ⟨n, f⟩ ⟨by show 0 < n; omega, hlim n hn, by omega, by show 0 + n = n; omega, by funext i; simp [joinF]⟩)
    obtain ⟨k, g, ⟨rfl, rfl⟩, h⟩ := h
    exact h

theorem pipes_le (m : Mac) (l : Sq Num) {n : Nat} {g : Nat → List V} (hn : n = l.n) (hg : ∀ i, i < n → g i = (l.f i).e) : Le (.agg [.int .u64 m.clock, .int .i64 m.quantum, .int .i64 m.cur, .int .i64 m.left, strs m.frames, prcs m.procs, .int .i64 m.next, .str m.init, .seq 2 n g, .int .i64 m.newpipe, .str m.inn, .bool m.endd, .int .u64 m.told,
    strs m.drive.blocks, nums m.drive.pending, .int .i64 m.drive.left, nums m.dirty]) (.agg ({ m with pipes := l } : Mac).e) :=
  .agg (.cons (.refl _) <| .cons (.refl _) <| .cons (.refl _) <| .cons (.refl _) <| .cons (.refl _) <| .cons (.refl _) <| .cons (.refl _) <| .cons (.refl _) <| .cons (.seq hn hg) <| .refl _)

theorem popen_spec (m : Mac) (hn : m.pipes.n ≤ 4096) : SpecD Try.prog 30 [.agg m.e] (.tup [.agg (openM m).e, .int .i64 m.newpipe]) := by
  refine (specE_of (Try.func30) (by kernel_rfl) (by kernel_rfl) (by kernel_rfl) ?_).le
  have : (65536 : Nat) ≤ maxLen := by decide
  refine w30_0 m ⟨cloneN_spec m.pipes hn, by omega, .tup (.cons ?_ (.refl _))⟩
  refine pipes_le { m with newpipe := IntKind.i64.wrap (m.newpipe + 1) } (openM m).pipes rfl fun i hi => ?_
  have hi : i < m.pipes.n + 1 := hi
  simp only [joinF, openM]
  by_cases hlt : i < m.pipes.n
  · rw [if_pos hlt, if_pos hlt]
  · rw [if_neg hlt, if_neg hlt, show i = m.pipes.n by omega, Nat.sub_self]; rfl

theorem with_spec (m : Mac) (i : Nat) (s : ByteArray) (hn : m.pipes.n ≤ 4096) (hi : i < m.pipes.n) : SpecD Try.prog 76 [.agg m.e, .int .i64 i, .str s] (.agg (withM m i s).e) := by
  refine (specE_of (Try.func76) (by kernel_rfl) (by kernel_rfl) (by kernel_rfl) ?_).le
  refine w76_0 m i s ⟨cloneN_spec m.pipes hn, by omega, by omega, ?_⟩
  refine pipes_le m (withM m i s).pipes rfl fun j hj => ?_
  simp only [withM, Int.toNat_natCast]
  by_cases hji : j = i
  · rw [if_pos hji, if_pos hji]; rfl
  · rw [if_neg hji, if_neg hji]

theorem pipeI_lt (m : Mac) (y : Int) : pipeI m y = -1 ∨ ∃ j : Nat, pipeI m y = j ∧ j < m.pipes.n ∧ (m.pipes.f j).n = y := by
  unfold pipeI
  rcases @idxF_ok (fun i => (m.pipes.f i).n == y) m.pipes.n 0 with ⟨h1, h2⟩ | ⟨j, h1, _, h3, h4, _⟩
  · exact .inl h1
  · exact .inr ⟨j, h1, by omega, by simpa using h4⟩

theorem pput_spec (m : Mac) (id : Int) (s : ByteArray) (hn : m.pipes.n ≤ 4096) (hs : ∀ j, j < m.pipes.n → (m.pipes.f j).s.size ≤ 140737488355328) (hss : s.size ≤ 140737488355328) :
    SpecD Try.prog 32 [.agg m.e, .int .i64 id, .str s] (.tup [.agg (putM m id s).1.e, .int .i64 (putM m id s).2]) := by
  refine (specE_of (Try.func32) (by kernel_rfl) (by kernel_rfl) (by kernel_rfl) ?_).eq
  have hp := pipeI_spec m id (by omega)
  apply w32_0 m (putM m id s).1 id (pipeI m id) s
  case c_t =>
    intro h
    simp only [decide_eq_true_eq] at h
    refine ⟨hp, ?_⟩
    unfold putM putI
    rw [if_pos h]; rfl
  case c_f =>
    intro h
    simp only [decide_eq_false_iff_not] at h
    rcases pipeI_lt m id with h1 | ⟨j, h1, h2, h3⟩
    · omega
    · have hr := roomN_max (m.pipes.f j).s s (hs j h2)
      have hle : roomN (m.pipes.f j).s s ≤ s.size := Nat.min_le_left _ _
      have hsz : (s.extract 0 (roomN (m.pipes.f j).s s)).size = roomN (m.pipes.f j).s s := by rw [cut_size _ _ _ hle, Nat.sub_zero]
      have hj := hs j h2
      have e1 : putM m id s = (withM m j ((m.pipes.f j).s ++ s.extract 0 (roomN (m.pipes.f j).s s)), roomN (m.pipes.f j).s s) := by
        unfold putM putI
        rw [h1, if_neg (by omega), Int.toNat_natCast]
      rw [h1] at hp ⊢
      rw [e1]
      simp only [Int.toNat_natCast, hr, Int.toNat_zero]
      refine ⟨hp, by omega, by omega, by omega, ?_, with_spec m j _ hn h2, trivial⟩
      rw [hsz, i64max]; omega

theorem takeN_min (was : ByteArray) (n : Int) : (if (was.size : Int) < (if (0 : Int) > n then (0 : Int) else n) then (was.size : Int) else (if (0 : Int) > n then (0 : Int) else n)) = (takeN was n : Int) := by
  unfold takeN
  split <;> split <;> omega
theorem ptake_spec (m : Mac) (id n : Int) (hn : m.pipes.n ≤ 4096) :
    SpecD Try.prog 33 [.agg m.e, .int .i64 id, .int .i64 n] (.tup [.agg (takeM m id n).1.e, .str (takeM m id n).2]) := by
  refine (specE_of (Try.func33) (by kernel_rfl) (by kernel_rfl) (by kernel_rfl) ?_).eq
  have hp := pipeI_spec m id (by omega)
  apply w33_0 m (takeM m id n).1 id n (pipeI m id)
  case c_t =>
    intro h
    simp only [decide_eq_true_eq] at h
    refine ⟨hp, ?_⟩
    unfold takeM takeI
    rw [if_pos h]
  case c_f =>
    intro h
    simp only [decide_eq_false_iff_not] at h
    rcases pipeI_lt m id with h1 | ⟨j, h1, h2, h3⟩
    · omega
    · have hle : takeN (m.pipes.f j).s n ≤ (m.pipes.f j).s.size := Nat.min_le_right _ _
      have e1 : takeM m id n = (withM m j ((m.pipes.f j).s.extract (takeN (m.pipes.f j).s n) (m.pipes.f j).s.size), (m.pipes.f j).s.extract 0 (takeN (m.pipes.f j).s n)) := by
        unfold takeM takeI
        rw [h1, if_neg (by omega), Int.toNat_natCast]
      rw [h1] at hp ⊢
      rw [e1]
      simp only [Int.toNat_natCast, takeN_min, Int.toNat_zero]
      exact ⟨hp, by omega, by omega, by omega, with_spec m j _ hn h2, by omega, by omega, trivial⟩

theorem alive_le (s t : ByteArray) : Le (.agg (withM (aliveM s) 0 t).e) (.agg (aliveM t).e) :=
  pipes_le (aliveM s) (aliveM t).pipes rfl fun i hi => by
    have hi : i < 1 := hi
    obtain rfl : i = 0 := by omega
    rfl
theorem aput_spec (s t : ByteArray) (hs : s.size ≤ 64) (ht : t.size ≤ 300) : SpecD Try.prog 32 [.agg (aliveM s).e, .int .i64 1, .str t] (.tup [.agg (aliveM (s ++ t.extract 0 (roomN s t))).e, .int .i64 (roomN s t)]) :=
  Spec.le (pput_spec (aliveM s) 1 t (by show 1 ≤ 4096; omega) (fun _ _ => by show s.size ≤ _; omega) (by omega)) (.tup (.cons (alive_le s _) (.refl _)))
theorem atake_spec (s : ByteArray) (n : Int) : SpecD Try.prog 33 [.agg (aliveM s).e, .int .i64 1, .int .i64 n] (.tup [.agg (aliveM (s.extract (takeN s n) s.size)).e, .str (s.extract 0 (takeN s n))]) :=
  Spec.le (ptake_spec (aliveM s) 1 n (by show 1 ≤ 4096; omega)) (.tup (.cons (alive_le s _) (.refl _)))
theorem aopen_spec : SpecD Try.prog 30 [.agg bareM.e] (.tup [.agg (aliveM ⟨#[]⟩).e, .int .i64 1]) :=
  Spec.le (popen_spec bareM (by show 0 ≤ 4096; omega)) (.tup (.cons (pipes_le { bareM with newpipe := 2 } (aliveM ⟨#[]⟩).pipes rfl fun i hi => by
    have hi : i < 1 := hi
    obtain rfl : i = 0 := by omega
    rfl) (.refl _)))

def ab35 : ByteArray := ⟨(Lib.repeatL [97, 98] 35).toArray⟩
def c70 : ByteArray := ⟨(Lib.repeatL [99] 70).toArray⟩
theorem ab35_cut : ((⟨#[]⟩ : ByteArray) ++ ab35.extract 0 64).extract 0 3 = ⟨#[97, 98, 97]⟩ := by kernel_rfl
theorem alive_spec : SpecD Try.prog 29 [] (.bool true) := by
  refine (specE_of (Try.func29) (by kernel_rfl) (by kernel_rfl) (by kernel_rfl) ?_).le
  have z1 : ab35.size = 70 := by kernel_rfl
  have z2 : c70.size = 70 := by kernel_rfl
  have r1 : roomN ⟨#[]⟩ ab35 = 64 := by unfold roomN; rw [z1]; rfl
  have z3 : ((⟨#[]⟩ : ByteArray) ++ ab35.extract 0 64).size = 64 := by rw [size_app, cut_size _ _ _ (by omega)]; rfl
  have t1 : takeN ((⟨#[]⟩ : ByteArray) ++ ab35.extract 0 64) 3 = 3 := by unfold takeN; rw [z3]; rfl
  have z4 : (((⟨#[]⟩ : ByteArray) ++ ab35.extract 0 64).extract 3 64).size = 61 := by rw [cut_size _ _ _ (by omega)]
  have r2 : roomN (((⟨#[]⟩ : ByteArray) ++ ab35.extract 0 64).extract 3 64) c70 = 3 := by unfold roomN; rw [z4, z2]; rfl
  have h1 := aput_spec ⟨#[]⟩ ab35 (by show 0 ≤ 64; omega) (by omega)
  rw [r1] at h1
  have h2 := atake_spec ((⟨#[]⟩ : ByteArray) ++ ab35.extract 0 64) 3
  rw [t1, z3] at h2
  have h3 := aput_spec (((⟨#[]⟩ : ByteArray) ++ ab35.extract 0 64).extract 3 64) c70 (by omega) (by omega)
  rw [r2] at h3
  have h4 := ncheck_spec (aliveM (((⟨#[]⟩ : ByteArray) ++ ab35.extract 0 64).extract 3 64)) ⟨by show 4 ≤ _; omega, by show 0 ≤ _; omega, by show 1 ≤ _; omega, by show 57 ≤ _; omega, by show 0 ≤ _; omega, by show 0 ≤ _; omega⟩
  rw [alive_check _ (by omega)] at h4
  have h5 := ncheck_spec noMac ⟨by show 0 ≤ _; omega, by show 0 ≤ _; omega, by show 0 ≤ _; omega, by show 0 ≤ _; omega, by show 0 ≤ _; omega, by show 0 ≤ _; omega⟩
  rw [noMac_check] at h5
  have h5 := h5.args (ss := [.agg [.int .u64 ((0 : Int)), .int .i64 ((0 : Int)), .int .i64 ((0 : Int)), .int .i64 ((0 : Int)), .nilsl, .nilsl, .int .i64 ((0 : Int)), .str ({ data := #[] : ByteArray }), .nilsl, .int .i64 ((0 : Int)), .str ({ data := #[] : ByteArray }), .tt false, .int .u64 ((0 : Int)), .nilsl, .nilsl, .int .i64 ((0 : Int)), .nilsl]])
    (.cons (.agg (.cons (.refl _) <| .cons (.refl _) <| .cons (.refl _) <| .cons (.refl _) <| .cons (Le.nil 1 _) <| .cons (Le.nil 96 _) <| .cons (.refl _) <| .cons (.refl _) <| .cons (Le.nil 2 _) <| .cons (.refl _) <| .cons (.refl _) <|
      .cons (Le.tt false) <| .cons (.refl _) <| .cons (Le.nil 1 _) <| .cons (Le.nil 2 _) <| .cons (.refl _) <| .cons (Le.nil 2 _) .nil)) .nil)
  have g1 : SpecD Try.prog 45 [.str ({ data := #[97, 98] : ByteArray }), .int .i64 (35 : Int)] (.str ab35) := repeat_spec ⟨#[97, 98]⟩ 35 (by omega) (by omega) (by decide) (by decide)
  have g2 : SpecD Try.prog 45 [.str ({ data := #[99] : ByteArray }), .int .i64 (70 : Int)] (.str c70) := repeat_spec ⟨#[99]⟩ 70 (by omega) (by omega) (by decide) (by decide)
  apply w29_0 bareM (aliveM ⟨#[]⟩) (aliveM ((⟨#[]⟩ : ByteArray) ++ ab35.extract 0 64)) (aliveM (((⟨#[]⟩ : ByteArray) ++ ab35.extract 0 64).extract 3 64)) (aliveM (((⟨#[]⟩ : ByteArray) ++ ab35.extract 0 64).extract 3 64 ++ c70.extract 0 3)) 1 64 3 0 2 ab35 c70 ⟨#[97, 98, 97]⟩
  case c_ttttt => intro _ _ _ _ _; rw [ab35_cut] at h2; exact ⟨bare_spec, aopen_spec, g1, h1, h2, g2, h3, h4, h5, Le.refl _⟩
  case c_ttttf => intro _ _ _ _ h; cases h
  case c_tttf => intro _ _ _ h; cases h
  case c_ttf => intro _ _ h; rw [strEq_self] at h; cases h
  case c_tf => intro _ h; cases h
  case c_f => intro h; cases h
end Go.Hb
