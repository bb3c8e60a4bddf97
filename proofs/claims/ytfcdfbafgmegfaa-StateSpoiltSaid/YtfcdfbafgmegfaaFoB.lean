/-
  THE FUNCTIONS, PART OB: 'StateSpoilt' hands back true.
-/
import Derived.Test.YtfcdfbafgmegfaaFnZ
import Derived.Test.YtfcdfbafgmegfaaLaF
import Derived.Test.YtfcdfbafgmegfaaFnI
import Derived.Test.YtfcdfbafgmegfaaWkR
namespace Go.Hb
open Go.RowKit Go.Proofs
set_option maxRecDepth 100000

theorem toList_loop (b : ByteArray) : ∀ (k i : Nat) (r : List UInt8), i + k = b.size → ByteArray.toList.loop b i r = r.reverse ++ b.data.toList.drop i
  | 0, i, r, h => by
    rw [ByteArray.toList.loop, if_neg (by omega)]
    have : b.data.toList.length ≤ i := by rw [Array.length_toList]; show b.size ≤ i; omega
    rw [List.drop_eq_nil_of_le this, List.append_nil]
  | k + 1, i, r, h => by
    have hi : i < b.size := by omega
    have hl : i < b.data.toList.length := by rw [Array.length_toList]; exact hi
    rw [ByteArray.toList.loop, if_pos hi, toList_loop b k (i + 1) _ (by omega), List.drop_eq_getElem_cons hl]
    have e : b.get! i = b.data.toList[i] := by
      show b.data[i]! = _
      rw [getElem!_pos b.data i hi, Array.getElem_toList]
    rw [List.reverse_cons, List.append_assoc, e]; rfl
theorem toList_data (b : ByteArray) : b.toList = b.data.toList := by
  unfold ByteArray.toList
  rw [toList_loop b b.size 0 [] (by omega)]; rfl

/-- As many bytes 'x'. -/
def xsB (n : Nat) : ByteArray := ⟨(Lib.repeatL [120] n).toArray⟩
theorem xs_spec (n : Nat) (h2 : 2 ≤ n) (h : n ≤ 1000) : SpecD Try.prog 45 [.str ({ data := #[(120 : UInt8)] : ByteArray }), .int .i64 n] (.str (xsB n)) :=
  repeat_spec ⟨#[120]⟩ n h2 (by omega) (by show 1 * n ≤ _; omega) (by decide)
theorem xs129 : (xsB 129).size = 129 := by kernel_rfl
theorem xs_head (g : Geo) : strEq (xsB 128) (headF g) = false := by
  cases h : strEq (xsB 128) (headF g) with
  | false => rfl
  | true =>
    unfold strEq at h
    have h := eq_of_beq h
    rw [toList_data, toList_data] at h
    have h1 : (xsB 128).data.toList.head? = some 120 := by kernel_rfl
    have h2 : (headF g).data.toList.head? = some 104 := by simp [headF]
    rw [h, h2] at h1
    cases h1

/-- Layer 25's 'Great' that says no. -/
theorem great_small (m : Mac) (ok : MacOk m) : ∃ g : Int, (g = 0 ∨ g = 1) ∧ (g = 0 → m.frames.n ≤ 250 ∧ m.procs.n ≤ 12 ∧ m.pipes.n ≤ 250 ∧ m.dirty.n ≤ 250 ∧ m.drive.pending.n ≤ 250) ∧ SpecD Try.prog 43 [.agg m.e] (.int .i64 g) := by
  have a1 := ok.frames
  have a2 := ok.procs
  have a3 := ok.pipes
  have a4 := ok.dirtys
  have a5 := ok.blocks
  have a6 := ok.pendings
  have a7 := ok.inn
  have a8 := ok.init
  have hS : IntKind.i64.wrap (IntKind.i64.wrap (IntKind.i64.wrap (IntKind.i64.wrap (IntKind.i64.wrap (IntKind.i64.wrap ((m.frames.n : Int) + (m.procs.n : Int)) + (m.pipes.n : Int)) + (m.dirty.n : Int)) + (m.drive.blocks.n : Int)) + (m.drive.pending.n : Int)) + IntKind.i64.wrap ((IntKind.i64.wrap ((m.inn.size : Int) + (m.init.size : Int))).tdiv 64))
      = m.frames.n + m.procs.n + m.pipes.n + m.dirty.n + m.drive.blocks.n + m.drive.pending.n + ((m.inn.size : Int) + m.init.size) / 64 := by
    rw [IntWalk.i64_in ((m.inn.size : Int) + (m.init.size : Int)) (by omega), IntWalk.i64_quo _ _ (by omega)]
    rw [IntWalk.i64_in ((m.frames.n : Int) + (m.procs.n : Int)) (by omega)]
    rw [IntWalk.i64_in ((m.frames.n : Int) + (m.procs.n : Int) + (m.pipes.n : Int)) (by omega)]
    rw [IntWalk.i64_in ((m.frames.n : Int) + (m.procs.n : Int) + (m.pipes.n : Int) + (m.dirty.n : Int)) (by omega)]
    rw [IntWalk.i64_in ((m.frames.n : Int) + (m.procs.n : Int) + (m.pipes.n : Int) + (m.dirty.n : Int) + (m.drive.blocks.n : Int)) (by omega)]
    rw [IntWalk.i64_in ((m.frames.n : Int) + (m.procs.n : Int) + (m.pipes.n : Int) + (m.dirty.n : Int) + (m.drive.blocks.n : Int) + (m.drive.pending.n : Int)) (by omega)]
    rw [IntWalk.i64_in _ (by omega)]
  by_cases hb : (m.frames.n : Int) + m.procs.n + m.pipes.n + m.dirty.n + m.drive.blocks.n + m.drive.pending.n + ((m.inn.size : Int) + m.init.size) / 64 > 250 ∨ (m.procs.n : Int) > 12
  · refine ⟨1, .inr rfl, fun h => (by cases h), ?_⟩
    refine (specE_of (Try.func43) (by kernel_rfl) (by kernel_rfl) (by kernel_rfl) ?_).eq
    apply w43_0 m
    case c_t => intro _; exact ⟨by omega, rfl⟩
    case c_ft => intro _ _; exact ⟨by omega, rfl⟩
    case c_ff => intro h h2; rw [hS] at h; simp only [decide_eq_false_iff_not] at h h2; omega
  · obtain ⟨g, hg, h⟩ := great_spec m ok
    exact ⟨g, hg, fun _ => by omega, h⟩

theorem frames_le (m : Mac) (l : Sq ByteArray) {n : Nat} {g : Nat → List V} (h : Le (.seq 1 n g) (strs l)) : Le (.agg [.int .u64 m.clock, .int .i64 m.quantum, .int .i64 m.cur, .int .i64 m.left, .seq 1 n g, prcs m.procs, .int .i64 m.next, .str m.init, nums m.pipes, .int .i64 m.newpipe, .str m.inn, .bool m.endd, .int .u64 m.told,
    strs m.drive.blocks, nums m.drive.pending, .int .i64 m.drive.left, nums m.dirty]) (.agg ({ m with frames := l } : Mac).e) :=
  .agg (.cons (.refl _) <| .cons (.refl _) <| .cons (.refl _) <| .cons (.refl _) <| .cons h <| .refl _)
theorem procs_le (m : Mac) (l : Sq Prc) {n : Nat} {g : Nat → List V} (h : Le (.seq 96 n g) (prcs l)) : Le (.agg [.int .u64 m.clock, .int .i64 m.quantum, .int .i64 m.cur, .int .i64 m.left, strs m.frames, .seq 96 n g, .int .i64 m.next, .str m.init, nums m.pipes, .int .i64 m.newpipe, .str m.inn, .bool m.endd, .int .u64 m.told,
    strs m.drive.blocks, nums m.drive.pending, .int .i64 m.drive.left, nums m.dirty]) (.agg ({ m with procs := l } : Mac).e) :=
  .agg (.cons (.refl _) <| .cons (.refl _) <| .cons (.refl _) <| .cons (.refl _) <| .cons (.refl _) <| .cons h <| .refl _)
theorem dirty_le (m : Mac) (l : Sq Num) {n : Nat} {g : Nat → List V} (h : Le (.seq 2 n g) (nums l)) : Le (.agg [.int .u64 m.clock, .int .i64 m.quantum, .int .i64 m.cur, .int .i64 m.left, strs m.frames, prcs m.procs, .int .i64 m.next, .str m.init, nums m.pipes, .int .i64 m.newpipe, .str m.inn, .bool m.endd, .int .u64 m.told,
    strs m.drive.blocks, nums m.drive.pending, .int .i64 m.drive.left, .seq 2 n g]) (.agg ({ m with dirty := l } : Mac).e) :=
  .agg (.cons (.refl _) <| .cons (.refl _) <| .cons (.refl _) <| .cons (.refl _) <| .cons (.refl _) <| .cons (.refl _) <| .cons (.refl _) <| .cons (.refl _) <| .cons (.refl _) <| .cons (.refl _) <| .cons (.refl _) <| .cons (.refl _) <| .cons (.refl _) <| .cons (.refl _) <| .cons (.refl _) <| .cons (.refl _) <| .cons h <| .refl _)
theorem pend_le (m : Mac) (l : Sq Num) {n : Nat} {g : Nat → List V} (h : Le (.seq 2 n g) (nums l)) : Le (.agg [.int .u64 m.clock, .int .i64 m.quantum, .int .i64 m.cur, .int .i64 m.left, strs m.frames, prcs m.procs, .int .i64 m.next, .str m.init, nums m.pipes, .int .i64 m.newpipe, .str m.inn, .bool m.endd, .int .u64 m.told,
    strs m.drive.blocks, .seq 2 n g, .int .i64 m.drive.left, nums m.dirty]) (.agg ({ m with drive := { m.drive with pending := l } } : Mac).e) :=
  .agg (.cons (.refl _) <| .cons (.refl _) <| .cons (.refl _) <| .cons (.refl _) <| .cons (.refl _) <| .cons (.refl _) <| .cons (.refl _) <| .cons (.refl _) <| .cons (.refl _) <| .cons (.refl _) <| .cons (.refl _) <| .cons (.refl _) <| .cons (.refl _) <| .cons (.refl _) <| .cons h <| .refl _)
theorem blocks_le (m : Mac) (l : Sq ByteArray) {s : V} (h : Le s (strs l)) : Le (.agg [.int .u64 m.clock, .int .i64 m.quantum, .int .i64 m.cur, .int .i64 m.left, strs m.frames, prcs m.procs, .int .i64 m.next, .str m.init, nums m.pipes, .int .i64 m.newpipe, .str m.inn, .bool m.endd, .int .u64 m.told,
    s, nums m.drive.pending, .int .i64 m.drive.left, nums m.dirty]) (.agg ({ m with drive := { m.drive with blocks := l } } : Mac).e) :=
  .agg (.cons (.refl _) <| .cons (.refl _) <| .cons (.refl _) <| .cons (.refl _) <| .cons (.refl _) <| .cons (.refl _) <| .cons (.refl _) <| .cons (.refl _) <| .cons (.refl _) <| .cons (.refl _) <| .cons (.refl _) <| .cons (.refl _) <| .cons (.refl _) <| .cons h <| .refl _)

/-- A row with one more at its end. -/
theorem snoc_at {α : Type} (l : Sq α) (x : α) (enc : α → List V) {g : Nat → List V} (h0 : ∀ i, i < l.n → g i = enc (l.f i)) (h1 : LeL (g l.n) (enc x)) : ∀ i, i < l.n + 1 → LeL (g i) (enc ((l.snoc x).f i)) := fun i hi => by
  simp only [Sq.snoc]
  by_cases hlt : i < l.n
  · rw [if_pos hlt, h0 i hlt]; exact .refl _
  · rw [if_neg hlt]
    obtain rfl : i = l.n := by omega
    exact h1
theorem join_lo {n i : Nat} {A B C : Nat → List V} (hi : i < n) : joinF (0 + n) (joinF 0 A B) C i = B i := by
  simp only [joinF, Nat.zero_add, hi, if_true, Nat.not_lt_zero, if_false, Nat.sub_zero]
theorem join_hi {n : Nat} {A B C : Nat → List V} : joinF (0 + n) (joinF 0 A B) C n = C 0 := by
  simp only [joinF, Nat.zero_add, Nat.lt_irrefl, if_false, Nat.sub_self]
theorem snoc_le {α : Type} (sz : Nat) (l : Sq α) (x : α) (enc : α → List V) {A C : Nat → List V} (h1 : LeL (C 0) (enc x)) (hd : ∀ y, allD (enc y) = true) :
    Le (.seq sz (0 + l.n + 1) (joinF (0 + l.n) (joinF 0 A fun i => enc (l.f i)) C)) (.seq sz (l.n + 1) fun i => enc ((l.snoc x).f i)) := by
  rw [show 0 + l.n + 1 = l.n + 1 by omega]
  exact Le.seqL (snoc_at l x enc (fun i hi => join_lo hi) (by rw [join_hi]; exact h1)) fun i _ => hd _

theorem spoilt_spec (m : Mac) (ok : MacOk m) (u : Int) (hu : 0 ≤ u) : SpecD Try.prog 9 [.agg m.e, .int .u8 u] (.bool true) := by
  refine (specE_of (Try.func9) (by kernel_rfl) (by kernel_rfl) (by kernel_rfl) ?_).le
  obtain ⟨g, hg, hsm, hgs⟩ := great_small m ok
  have hck := ncheck_spec m ok.lim
  have : (65536 : Nat) ≤ maxLen := by decide
  have hfin : ∀ x : Int, x ≠ 0 → Le (.bool (x != 0)) (.bool true) := fun x hx => by
    rw [show (x != 0) = true from bne_iff_ne.2 hx]; exact Le.refl _
  by_cases hpass : g = 1 ∨ checkF m ≠ 0
  · apply w9_0 m u true g (checkF m) 0 ⟨#[]⟩
    case c_t => intro h; cases h
    case c_ft => intro _ _; exact ⟨alive_spec, hgs, Le.tt true⟩
    case c_fft => intro _ _ _; exact ⟨alive_spec, hgs, hck, Le.tt true⟩
    all_goals
      intro _ h1 h2
      simp only [beq_eq_false_iff_ne, bne_eq_false_iff_eq] at h1 h2
      rcases hpass with h | h
      · exact absurd h h1
      · exact absurd h2 h
  · have hg0 : g = 0 := by
      rcases hg with h | h
      · exact h
      · exact absurd (.inl h) hpass
    have hk0 : checkF m = 0 := by
      by_cases h : checkF m = 0
      · exact h
      · exact absurd (.inr h) hpass
    obtain ⟨b1, b2, b3, b4, b5⟩ := hsm hg0
    have hf := fine_of hk0
    have hq := hf.quantum
    have hwq : IntKind.i64.wrap (m.quantum + 1) = m.quantum + 1 := IntWalk.i64_in _ (by omega)
    have l1 := ok.frames
    have l2 := ok.procs
    have l3 := ok.pipes
    have l4 := ok.blocks
    have l5 := ok.pendings
    have l6 := ok.dirtys
    have h128 : SpecD Try.prog 45 [.str ({ data := #[(120 : UInt8)] : ByteArray }), .int .i64 (128 : Int)] (.str (xsB 128)) := xs_spec 128 (by omega) (by omega)
    have h129 : SpecD Try.prog 45 [.str ({ data := #[(120 : UInt8)] : ByteArray }), .int .i64 (129 : Int)] (.str (xsB 129)) := xs_spec 129 (by omega) (by omega)
    have c0 := ncheck_spec { m with quantum := 0 } ⟨l1, l2, l3, l4, l5, l6⟩
    have c1 := ncheck_spec { m with left := m.quantum + 1 } ⟨l1, l2, l3, l4, l5, l6⟩
    have c2 := (ncheck_spec { m with frames := m.frames.snoc ⟨#[120]⟩ } ⟨by show m.frames.n + 1 ≤ _; omega, l2, l3, l4, l5, l6⟩).args (.cons (frames_le m _ (snoc_le 1 m.frames ⟨#[120]⟩ (fun s => [.str s]) (A := fun i => List.take 1 (List.drop (i * 1) (rep 0 (consts (Value.string { data := #[] : ByteArray }).cells.toList)))) (C := fun i => List.take 1 (List.drop (0 + i * 1) (splice (rep 1 (consts (Value.string { data := #[] : ByteArray }).cells.toList)) (0 * 1) [ofConst (Value.string { data := #[(120 : UInt8)] : ByteArray })]))) (LeL.refl _) fun _ => rfl)) .nil)
    have hd : (u.tmod 10 = 0 ∨ u.tmod 10 = 1 ∨ u.tmod 10 = 2 ∨ u.tmod 10 = 3 ∨ u.tmod 10 = 4) ∨ u.tmod 10 = 5 ∨ u.tmod 10 = 6 ∨ u.tmod 10 = 7 ∨ u.tmod 10 = 8 ∨ u.tmod 10 = 9 := by
      rw [Int.tmod_eq_emod_of_nonneg hu]; omega
    rcases hd with (hd | hd | hd | hd | hd) | hd | hd | hd | hd | hd
    · apply w9_0 m u true g (checkF m) (checkF { m with quantum := 0 }) ⟨#[]⟩
      case c_ffft => intros; exact ⟨alive_spec, hgs, hck, by omega, c0, hfin _ (spoilt0 m)⟩
      all_goals (intros; simp only [beq_iff_eq, beq_eq_false_iff_ne, bne_iff_ne, Bool.not_eq_true'] at *; first | omega | simp_all)
    · apply w9_0 m u true g (checkF m) (checkF { m with left := m.quantum + 1 }) ⟨#[]⟩
      case c_fffft => intros; rw [hwq]; exact ⟨alive_spec, hgs, hck, by omega, c1, hfin _ (spoilt1 m _ rfl)⟩
      all_goals (intros; simp only [beq_iff_eq, beq_eq_false_iff_ne, bne_iff_ne, Bool.not_eq_true'] at *; first | omega | simp_all)
    · apply w9_0 m u true g (checkF m) (checkF { m with frames := m.frames.snoc ⟨#[120]⟩ }) ⟨#[]⟩
      case c_ffffft => intros; exact ⟨alive_spec, hgs, hck, by omega, by omega, by omega, by omega, c2, hfin _ (spoilt2 m _ rfl)⟩
      all_goals (intros; simp only [beq_iff_eq, beq_eq_false_iff_ne, bne_iff_ne, Bool.not_eq_true'] at *; first | omega | simp_all)
    · apply w9_0 m u true g (checkF m) (checkF { m with procs := m.procs.snoc (rdy m.next) }) ⟨#[]⟩
      case c_fffffft =>
        intros
        refine ⟨alive_spec, hgs, hck, by omega, by omega, by omega, by omega, ?_, hfin _ (spoilt3 m _ rfl)⟩
        refine (ncheck_spec { m with procs := m.procs.snoc (rdy m.next) } ⟨l1, by show m.procs.n + 1 ≤ _; omega, l3, l4, l5, l6⟩).args (.cons (procs_le m _ (snoc_le 96 m.procs (rdy m.next) Prc.e ?_ fun _ => rfl)) .nil)
        exact rdy_le m.next
      all_goals (intros; simp only [beq_iff_eq, beq_eq_false_iff_ne, bne_iff_ne, Bool.not_eq_true'] at *; first | omega | simp_all)
    · apply w9_0 m u true g (checkF m) (checkF { m with pipes := m.pipes.snoc ⟨m.newpipe, ⟨#[]⟩⟩ }) ⟨#[]⟩
      case c_ffffffft =>
        intros
        refine ⟨alive_spec, hgs, hck, by omega, by omega, by omega, by omega, ?_, hfin _ (spoilt4 m _ rfl)⟩
        refine (ncheck_spec { m with pipes := m.pipes.snoc ⟨m.newpipe, ⟨#[]⟩⟩ } ⟨l1, l2, by show m.pipes.n + 1 ≤ _; omega, l4, l5, l6⟩).args (.cons (pipes_le m _ (show 0 + m.pipes.n + 1 = m.pipes.n + 1 by omega) fun i hi => ?_) .nil)
        simp only [Sq.snoc]
        by_cases hlt : i < m.pipes.n
        · rw [if_pos hlt, join_lo hlt]
        · rw [if_neg hlt, show i = m.pipes.n by omega, join_hi]; rfl
      all_goals (intros; simp only [beq_iff_eq, beq_eq_false_iff_ne, bne_iff_ne, Bool.not_eq_true'] at *; first | omega | simp_all)
    · apply w9_0 m u true g (checkF m) (checkF { m with init := xsB 129 }) (xsB 129)
      case c_fffffffft => intros; exact ⟨alive_spec, hgs, hck, by omega, h129, ncheck_spec { m with init := xsB 129 } ⟨l1, l2, l3, l4, l5, l6⟩, hfin _ (spoilt5 m _ xs129)⟩
      all_goals (intros; simp only [beq_iff_eq, beq_eq_false_iff_ne, bne_iff_ne, Bool.not_eq_true'] at *; first | omega | simp_all)
    · apply w9_0 m u true g (checkF m) (checkF { m with drive := { m.drive with blocks := ⟨0, fun _ => ⟨#[]⟩⟩ } }) ⟨#[]⟩
      case c_ffffffffft => intros; exact ⟨alive_spec, hgs, hck, by omega, (ncheck_spec { m with drive := { m.drive with blocks := ⟨0, fun _ => ⟨#[]⟩⟩ } } ⟨l1, l2, l3, Nat.zero_le _, l5, l6⟩).args (.cons (blocks_le m _ (Le.nil 1 _)) .nil), hfin _ (spoilt6 m _)⟩
      all_goals (intros; simp only [beq_iff_eq, beq_eq_false_iff_ne, bne_iff_ne, Bool.not_eq_true'] at *; first | omega | simp_all)
    · apply w9_0 m u true g (checkF m) (checkF { m with dirty := m.dirty.snoc ⟨223, xsB 128⟩ }) (xsB 128)
      case c_fffffffffft =>
        intros
        refine ⟨alive_spec, hgs, hck, by omega, by omega, by omega, h128, by omega, ?_, hfin _ (spoilt7 m _ rfl)⟩
        refine (ncheck_spec { m with dirty := m.dirty.snoc ⟨223, xsB 128⟩ } ⟨l1, l2, l3, l4, l5, by show m.dirty.n + 1 ≤ _; omega⟩).args (.cons (dirty_le m _ (snoc_le 2 m.dirty ⟨223, xsB 128⟩ Num.e ?_ fun _ => rfl)) .nil)
        exact LeL.refl _
      all_goals (intros; simp only [beq_iff_eq, beq_eq_false_iff_ne, bne_iff_ne, Bool.not_eq_true'] at *; first | omega | simp_all)
    · apply w9_0 m u true g (checkF m) (checkF { m with dirty := ⟨1, fun _ => ⟨0, xsB 128⟩⟩ }) (xsB 128)
      case c_ffffffffffft =>
        intros
        refine ⟨alive_spec, hgs, hck, by omega, h128, ?_, hfin _ (spoilt8 m ⟨0, xsB 128⟩ rfl xs_head _ rfl rfl)⟩
        refine (ncheck_spec { m with dirty := ⟨1, fun _ => ⟨0, xsB 128⟩⟩ } ⟨l1, l2, l3, l4, l5, by show 1 ≤ _; omega⟩).args (.cons (dirty_le m _ (.seq rfl fun i hi => ?_)) .nil)
        obtain rfl : i = 0 := by omega
        rfl
      all_goals (intros; simp only [beq_iff_eq, beq_eq_false_iff_ne, bne_iff_ne, Bool.not_eq_true'] at *; first | omega | simp_all)
    · apply w9_0 m u true g (checkF m) (checkF { m with drive := { m.drive with pending := m.drive.pending.snoc ⟨3, ⟨#[]⟩⟩ } }) ⟨#[]⟩
      case c_fffffffffffft =>
        intros
        refine ⟨alive_spec, hgs, hck, by omega, by omega, by omega, by omega, ?_, hfin _ (spoilt9 m _ rfl)⟩
        refine (ncheck_spec { m with drive := { m.drive with pending := m.drive.pending.snoc ⟨3, ⟨#[]⟩⟩ } } ⟨l1, l2, l3, l4, by show m.drive.pending.n + 1 ≤ _; omega, l6⟩).args (.cons (pend_le m _ (snoc_le 2 m.drive.pending ⟨3, ⟨#[]⟩⟩ Num.e ?_ fun _ => rfl)) .nil)
        exact LeL.refl _
      all_goals (intros; simp only [beq_iff_eq, beq_eq_false_iff_ne, bne_iff_ne, Bool.not_eq_true'] at *; first | omega | simp_all)
theorem spoilt_law (m : Mac) (ok : MacOk m) (u : Int) (w : (Lit.int .u8 u).wf = true) : SpecD Try.prog 9 [.agg m.e, .int .u8 u] (.bool true) :=
  spoilt_spec m ok u (by
    have h : (decide (IntKind.u8.min ≤ u) && decide (u ≤ IntKind.u8.max)) = true := w
    rw [Bool.and_eq_true, decide_eq_true_eq] at h
    exact h.1)
end Go.Hb
