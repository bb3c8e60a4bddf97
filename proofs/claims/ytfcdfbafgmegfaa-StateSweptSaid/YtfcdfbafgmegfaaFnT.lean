/-
  THE FUNCTIONS, PART T: the own code's numbers as bytes, its volumes ('geom.Of'), drives ('drive.Check'), all as the document's.
-/
import Derived.Test.YtfcdfbafgmegfaaFnS
import Derived.Test.YtfcdfbafgmegfaaWkX
import Derived.Test.YtfcdfbafgmegfaaWkX2
import Derived.Test.YtfcdfbafgmegfaaSpR
namespace Go.Hb
open Go.RowKit Go.Proofs

theorem byte_lt (s : ByteArray) (i : Nat) : ((s.data.getD i 0).toNat : Int) < 256 ∧ 0 ≤ ((s.data.getD i 0).toNat : Int) := by
  have : (s.data.getD i 0).toNat < 256 := (s.data.getD i 0).toBitVec.isLt
  omega
theorem or_shl (a b : Int) (ha : 0 ≤ a ∧ a < 256) (hb : 0 ≤ b ∧ b < 256) : bitOr .u64 (bitOr .u64 0 (shlI .u64 (IntKind.u64.wrap a) (IntKind.i64.wrap (8 * 0)))) (shlI .u64 (IntKind.u64.wrap b) (IntKind.i64.wrap (8 * 1))) = b * 256 + a := by
  obtain ⟨x, rfl⟩ := Int.eq_ofNat_of_zero_le ha.1
  obtain ⟨y, rfl⟩ := Int.eq_ofNat_of_zero_le hb.1
  have hw : ∀ n : Nat, n < 18446744073709551616 → IntKind.u64.wrap (n : Int) = n := fun n hn => by
    show (n : Int) % 18446744073709551616 = n
    omega
  have hs0 : shlI .u64 (IntKind.u64.wrap (x : Int)) (IntKind.i64.wrap (8 * 0)) = (x : Int) := by
    rw [hw x (by omega)]
    show IntKind.u64.wrap ((x : Int) * 1) = x
    rw [Int.mul_one, hw x (by omega)]
  have hs1 : shlI .u64 (IntKind.u64.wrap (y : Int)) (IntKind.i64.wrap (8 * 1)) = ((y * 256 : Nat) : Int) := by
    rw [hw y (by omega)]
    show IntKind.u64.wrap ((y : Int) * 256) = _
    rw [show (y : Int) * 256 = ((y * 256 : Nat) : Int) by omega, hw _ (by omega)]
  have hor : ∀ p q : Nat, p < 65536 → q < 65536 → bitOr .u64 (p : Int) (q : Int) = ((p ||| q : Nat) : Int) := by
    intro p q hp hq
    have e : ∀ n : Nat, n < 65536 → (BitVec.ofInt IntKind.u64.bits (n : Int)).toNat = n := fun n hn => by
      show (BitVec.ofInt 64 (n : Int)).toNat = n
      rw [BitVec.toNat_ofInt]
      show (((n : Int) % 18446744073709551616)).toNat = n
      omega
    have hlt : p ||| q < 65536 := Nat.or_lt_two_pow (n := 16) hp hq
    unfold bitOr
    rw [BitVec.toNat_or, e p hp, e q hq, hw _ (by omega)]
  rw [hs0, hs1, show (0 : Int) = ((0 : Nat) : Int) from rfl, hor 0 x (by omega) (by omega), Nat.zero_or, hor x (y * 256) (by omega) (by omega), Nat.or_comm]
  have := Nat.shiftLeft_add_eq_or_of_lt (a := y) (b := x) (i := 8) (by omega)
  rw [Nat.shiftLeft_eq] at this
  rw [← show y * 2 ^ 8 = y * 256 from rfl, ← this]
  omega

theorem getF_two (s : ByteArray) (hs : s.size = 2) : getF s = ((s.data.getD 1 0).toNat : Int) * 256 + ((s.data.getD 0 0).toNat : Int) := by
  have h0 := byte_lt s 0
  have h1 := byte_lt s 1
  unfold getF
  rw [hs]
  simp only [getK]
  have hw : ∀ n : Int, 0 ≤ n → n < 18446744073709551616 → IntKind.u64.wrap n = n := fun n h1 h2 => by
    show n % 18446744073709551616 = n
    omega
  generalize ((s.data.getD 1 0).toNat : Int) = y at h1 ⊢
  generalize ((s.data.getD 0 0).toNat : Int) = x at h0 ⊢
  rw [if_pos (by omega), if_pos (by omega), show IntKind.u64.wrap (0 * 256) = 0 from rfl, hw y (by omega) (by omega), Int.zero_add, hw y (by omega) (by omega), hw (y * 256) (by omega) (by omega), hw x (by omega) (by omega), hw (y * 256 + x) (by omega) (by omega)]

theorem nget_spec (s : ByteArray) (hs : s.size = 2) : SpecD Try.prog 185 [.str s] (.int .u64 (getF s)) := by
  refine (specE_of (Try.func185) (by kernel_rfl) (by kernel_rfl) (by kernel_rfl) (w185_0 s ?_)).eq
  have hm : (if (8 : Int) < (↑s.size : Int) then (8 : Int) else (↑s.size : Int)) = 2 := by rw [hs]; rfl
  have e1 : ((s.data.getD (Int.toNat 1) 0).toNat : Int) = ((s.data.getD 1 0).toNat : Int) := rfl
  have w1 : IntKind.i64.wrap ((0 : Int) + 1) = 1 := rfl
  have w2 : IntKind.i64.wrap ((1 : Int) + 1) = 2 := rfl
  apply w185_1 s 0 0
  case c_f => intro h; rw [hm] at h; simp at h
  intro _
  refine ⟨by omega, by decide, ?_⟩
  rw [w1]
  apply w185_1 s _ 1
  case c_f => intro h; rw [hm] at h; simp at h
  intro _
  refine ⟨by omega, by decide, ?_⟩
  rw [w2]
  apply w185_1 s _ 2
  case c_t => intro h; rw [hm] at h; simp at h
  intro _
  congr 1
  rw [getF_two s hs]
  exact (or_shl _ _ (And.symm (byte_lt s 0)) (And.symm (byte_lt s 1))).symm

theorem nput_spec (x : Int) (h0 : 0 ≤ x) (h1 : x < 18446744073709551616) : SpecD Try.prog 157 [.int .u64 x, .int .i64 2] (.str (putF x 2)) := by
  have key : putF x 2 = bytesOf [IntKind.u8.wrap (shrI .u64 x (IntKind.i64.wrap (8 * 0))), IntKind.u8.wrap (shrI .u64 x (IntKind.i64.wrap (8 * 1)))] := by
    have e0 : shrI .u64 x (IntKind.i64.wrap (8 * 0)) = x := by show x.fdiv 1 = x; exact Int.fdiv_one x
    have e1 : shrI .u64 x (IntKind.i64.wrap (8 * 1)) = x / 256 := by show x.fdiv 256 = x / 256; exact Int.fdiv_eq_ediv_of_nonneg x (by omega)
    have f0 : x.tmod 256 = x % 256 := Int.tmod_eq_emod_of_nonneg h0
    have f1 : x.tdiv 256 = x / 256 := Int.tdiv_eq_ediv_of_nonneg h0
    have g1 : IntKind.u64.wrap (x / 256) = x / 256 := by show (x / 256) % 18446744073709551616 = x / 256; omega
    have f2 : (x / 256).tmod 256 = (x / 256) % 256 := Int.tmod_eq_emod_of_nonneg (by omega)
    have u : ∀ n : Int, IntKind.u8.wrap (n % 256) = IntKind.u8.wrap n := fun n => by show (n % 256) % 256 = n % 256; omega
    rw [e0, e1]
    simp only [putF, putK]
    rw [if_pos (by omega), if_pos (by omega), if_neg (by omega), f0, f1, g1, f2, u, u]
    rfl
  rw [key]
  refine (specE_of (Try.func157) (by kernel_rfl) (by kernel_rfl) (by kernel_rfl) ?_).eq
  have hmax : (65536 : Nat) ≤ maxLen := by decide
  have w1 : IntKind.i64.wrap ((0 : Int) + 1) = 1 := rfl
  have w2 : IntKind.i64.wrap ((1 : Int) + 1) = 2 := rfl
  refine w157_0 x ⟨by decide, ⟨by decide, by show 2 ≤ maxLen; omega⟩, ?_⟩
  refine GoToE.reVec 0 (n' := 2) (g' := fun _ => [.int .u8 0]) rfl rfl (fun j hj => rfl) ?_
  apply w157_1 x (fun _ => 0) 0
  case c_f => intro h; cases h
  intro _
  refine ⟨by decide, by omega, by decide, ?_⟩
  rw [w1]
  refine GoToE.reVec 0 (n' := 2) (g' := fun j => [.int .u8 (if j = 0 then IntKind.u8.wrap (shrI .u64 x (IntKind.i64.wrap (8 * 0))) else 0)]) rfl rfl (fun j hj => ?_) ?_
  · by_cases hj0 : j = 0
    · subst hj0; rfl
    · simp only [Int.toNat_zero, if_neg hj0]
  apply w157_1 x _ 1
  case c_f => intro h; cases h
  intro _
  refine ⟨by decide, by omega, by decide, ?_⟩
  rw [w2]
  refine GoToE.reVec 0 (n' := 2) (g' := fun j => [.int .u8 (if j = 0 then IntKind.u8.wrap (shrI .u64 x (IntKind.i64.wrap (8 * 0))) else IntKind.u8.wrap (shrI .u64 x (IntKind.i64.wrap (8 * 1))))]) rfl rfl (fun j hj => ?_) ?_
  · have hj : j < 2 := hj
    by_cases hj0 : j = 0
    · subst hj0; rfl
    · obtain rfl : j = 1 := by omega
      rfl
  apply w157_1 x _ 2
  case c_t => intro h; cases h
  intro _
  exact ⟨by decide, fun i hi => rfl, rfl⟩

theorem nbit_spec (s : ByteArray) (y : Int) (h0 : 0 ≤ y) (h1 : y < 1024) (hs : 128 ≤ s.size) : SpecD Try.prog 205 [.str s, .int .i64 y] (.bool (bitF s y)) := by
  refine (specE_of (Try.func205) (by kernel_rfl) (by kernel_rfl) (by kernel_rfl) ?_).eq
  have e : IntKind.i64.wrap (y.tdiv (8 : Int)) = y / 8 := IntWalk.i64_quo _ _ (by omega)
  exact w205_0 s y ⟨by omega, by rw [e]; omega, by omega, Int.tmod_nonneg _ h0, rfl⟩

theorem zer_repeat : (⟨(Lib.repeatL [(0 : UInt8)] 128).toArray⟩ : ByteArray) = zer 128 := by kernel_rfl
theorem nzeros_spec : SpecD Try.prog 204 [] (.str (zer 128)) := by
  refine (specE_of (Try.func204) (by kernel_rfl) (by kernel_rfl) (by kernel_rfl) ?_).eq
  have h := repeat_spec ⟨#[0]⟩ 128 (by omega) (by omega) (by decide) (by decide)
  have e : (⟨(Lib.repeatL (⟨#[0]⟩ : ByteArray).data.toList 128).toArray⟩ : ByteArray) = zer 128 := zer_repeat
  rw [e] at h
  exact w204_0 (zer 128) ⟨h, rfl⟩

theorem nputF_two (x : Int) : (putF x 2).size = 2 := by
  simp only [putF, putK]
  rw [if_pos (by omega), if_pos (by omega), if_neg (by omega), size_app, size_app, size_bytesOf1, size_bytesOf1]; rfl
theorem zer_cut : (zer 128).extract 8 128 = zer 120 := by kernel_rfl
theorem u64_range (x : Int) : 0 ≤ IntKind.u64.wrap x ∧ IntKind.u64.wrap x < 18446744073709551616 := by
  show 0 ≤ x % 18446744073709551616 ∧ x % 18446744073709551616 < 18446744073709551616
  omega
theorem nhead_spec (g : Geo) : SpecD Try.prog 186 [.agg g.e] (.str (headF g)) := by
  refine (specE_of (Try.func186) (by kernel_rfl) (by kernel_rfl) (by kernel_rfl) ?_).eq
  have a1 := nputF_two (IntKind.u64.wrap g.blocks)
  have a2 := nputF_two (IntKind.u64.wrap g.inodes)
  have b1 : ({ data := #[(104 : UInt8), (105 : UInt8), (98 : UInt8), (49 : UInt8)] : ByteArray }).size = 4 := rfl
  have r1 := u64_range g.blocks
  have r2 := u64_range g.inodes
  have hsz : (({ data := #[(104 : UInt8), (105 : UInt8), (98 : UInt8), (49 : UInt8)] : ByteArray } ++ putF (IntKind.u64.wrap g.blocks) 2) ++ putF (IntKind.u64.wrap g.inodes) 2).size = 8 := by rw [size_app, size_app, b1, a1, a2]
  have hz := size_zer 128
  refine w186_0 g.blocks g.inodes g.quota g.map g.table g.data (putF (IntKind.u64.wrap g.blocks) 2) (putF (IntKind.u64.wrap g.inodes) 2) (zer 128) ?_
  rw [hsz, hz]
  refine ⟨nput_spec _ r1.1 r1.2, ?_, nput_spec _ r2.1 r2.2, ?_, nzeros_spec, ?_, ?_, ?_, ?_⟩
  · rw [i64max, b1]; omega
  · rw [i64max, size_app, b1]; omega
  all_goals first | omega | (rw [i64max, ByteArray.size_extract, hz]; omega) | skip
  · rw [headF, ← zer_cut]; rfl
end Go.Hb
