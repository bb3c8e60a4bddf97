/-
  strings.Repeat's contract, laid at this program by the kit's own tools (lay-shelf.mjs, lay-plain.mjs), cut to what is used here; and its form in the symbolic layer.
-/
import Derived.Shelf.Strings.Repeat
import Derived.Test.YtfcdfbafgmegfaaProg
import Derived.Test.YtfcdfbafgmegfaaSy4
namespace Go.Proofs
open Go.Shelf
def Try.lays105_ren : Go.Shelf.Ren := ⟨fun | 105 => 45 | 212 => 91 | 99 => 92 | 165 => 93 | 166 => 94 | 170 => 95 | 169 => 96 | 263 => 141 | 264 => 142 | 206 => 143 | 240 => 144 | 241 => 145 | 276 => 188 | 277 => 189 | n => n, fun | 9 => 9 | 3 => 3 | 4 => 4 | 20 => 20 | 0 => 0 | 46 => 132 | 109 => 133 | 5 => 5 | 72 => 138 | 76 => 142 | 51 => 35 | 146 => 180 | 53 => 22 | 148 => 182 | 70 => 136 | 37 => 51 | 75 => 141 | 127 => 184 | 164 => 208 | 80 => 145 | n => n, fun | n => n⟩
theorem Try.lays105 : Go.Proofs.Lays.n105 Try.prog Try.lays105_ren := {
  mixed := by kernel_rfl
  f99 := Try.func92.trans (congrArg some (by kernel_rfl))
  f105 := Try.func45.trans (congrArg some (by kernel_rfl))
  f165 := Try.func93.trans (congrArg some (by kernel_rfl))
  f166 := Try.func94.trans (congrArg some (by kernel_rfl))
  f169 := Try.func96.trans (congrArg some (by kernel_rfl))
  f170 := Try.func95.trans (congrArg some (by kernel_rfl))
  f206 := Try.func143.trans (congrArg some (by kernel_rfl))
  f212 := Try.func91.trans (congrArg some (by kernel_rfl))
  f240 := Try.func144.trans (congrArg some (by kernel_rfl))
  f241 := Try.func145.trans (congrArg some (by kernel_rfl))
  f263 := Try.func141.trans (congrArg some (by kernel_rfl))
  f264 := Try.func142.trans (congrArg some (by kernel_rfl))
  f276 := Try.func188.trans (congrArg some (by kernel_rfl))
  f277 := Try.func189.trans (congrArg some (by kernel_rfl))
  t0 := Try.underlying0
  a0 := Try.isAgg0
  z0 := Try.sizeOf0
  v0 := Try.zeroValue0
  t3 := Try.underlying3
  a3 := Try.isAgg3
  z3 := Try.sizeOf3
  v3 := Try.zeroValue3
  t4 := Try.underlying4
  a4 := Try.isAgg4
  z4 := Try.sizeOf4
  v4 := Try.zeroValue4
  t5 := Try.underlying5
  a5 := Try.isAgg5
  z5 := Try.sizeOf5
  v5 := Try.zeroValue5
  t9 := Try.underlying9
  a9 := Try.isAgg9
  z9 := Try.sizeOf9
  v9 := Try.zeroValue9
  t20 := Try.underlying20
  a20 := Try.isAgg20
  z20 := Try.sizeOf20
  v20 := Try.zeroValue20
  t37 := Try.underlying51
  a37 := Try.isAgg51
  z37 := Try.sizeOf51
  v37 := Try.zeroValue51
  t46 := Try.underlying132
  a46 := Try.isAgg132
  z46 := Try.sizeOf132
  v46 := Try.zeroValue132
  t51 := Try.underlying35
  a51 := Try.isAgg35
  z51 := Try.sizeOf35
  v51 := Try.zeroValue35
  t53 := Try.underlying22
  a53 := Try.isAgg22
  z53 := Try.sizeOf22
  v53 := Try.zeroValue22
  t70 := Try.underlying136
  a70 := Try.isAgg136
  z70 := Try.sizeOf136
  v70 := Try.zeroValue136
  t72 := Try.underlying138
  a72 := Try.isAgg138
  z72 := Try.sizeOf138
  v72 := Try.zeroValue138
  t75 := Try.underlying141
  a75 := Try.isAgg141
  z75 := Try.sizeOf141
  v75 := Try.zeroValue141
  t76 := Try.underlying142
  a76 := Try.isAgg142
  z76 := Try.sizeOf142
  v76 := Try.zeroValue142
  t109 := Try.underlying133
  a109 := Try.isAgg133
  z109 := Try.sizeOf133
  v109 := Try.zeroValue133
  t127 := Try.underlying184
  a127 := Try.isAgg184
  z127 := Try.sizeOf184
  v127 := Try.zeroValue184
  t146 := Try.underlying180
  a146 := Try.isAgg180
  z146 := Try.sizeOf180
  v146 := Try.zeroValue180
  t148 := Try.underlying182
  a148 := Try.isAgg182
  z148 := Try.sizeOf182
  v148 := Try.zeroValue182
  t164 := Try.underlying208
  a164 := Try.isAgg208
  z164 := Try.sizeOf208
  v164 := Try.zeroValue208 }
theorem Try.Builder_Extra_105 : Builder.Extra Try.prog Try.lays105_ren := {
  sizeBuilder := by kernel_rfl
  liesBuilder := by kernel_rfl
  t5 := Try.underlying5
  a5 := Try.isAgg5
  z5 := Try.sizeOf5
  v5 := Try.zeroValue5
  infoByte := by kernel_rfl
  cellsByte := by kernel_rfl
  sizeByte := by kernel_rfl
  neB5 := by decide }
open Go.RowKit Go.Lib in
/-- THE MAIN CASE: at least two copies of a string that is not empty. (LAID: no walk: one application.) -/
theorem Try.strings_Repeat_main (s : ByteArray) (c : Nat) (w : World) (hc2 : 2 ≤ c) (hc : c ≤ 9223372036854775807) (hlen : s.size * c ≤ 140737488355328) (h0 : 0 < s.size) :
    Calls Try.prog 45 #[.string s, .int .i64 c] w fun e w' => e = .returned (.string ⟨(Lib.repeatL s.data.toList c).toArray⟩) ∧ Below w.heap.size w w' := Any.strings_Repeat_main Try.lays105 Try.Builder_Extra_105 s c w hc2 hc hlen h0
end Go.Proofs
namespace Go.Hb
open Go.RowKit Go.Proofs
theorem repeat_spec (s : ByteArray) (c : Nat) (hc2 : 2 ≤ c) (hc : c ≤ 9223372036854775807) (hlen : s.size * c ≤ 140737488355328) (h0 : 0 < s.size) :
    SpecD Try.prog 45 [.str s, .int .i64 c] (.str ⟨(Lib.repeatL s.data.toList c).toArray⟩) := by
  refine ⟨enters_of (Try.func45) (by kernel_rfl) (c := bodyOf Try.f45) (by kernel_rfl), fun E σ vals hm hf hs hc' => ?_⟩
  obtain ⟨v0, h1, h2⟩ := hc' 0 _ rfl
  obtain ⟨v1, h3, h4⟩ := hc' 1 _ rfl
  obtain rfl : v0 = .string s := by
    cases h2 with
    | data h => cases h; rfl
  obtain rfl : v1 = .int .i64 c := by
    cases h4 with
    | data h => cases h; rfl
  obtain rfl : vals = #[.string s, .int .i64 c] := by
    apply Array.ext_getElem?
    intro i
    match i with
    | 0 => simpa using h1
    | 1 => simpa using h3
    | i + 2 => rw [Array.getElem?_eq_none (by simp at hs; omega), Array.getElem?_eq_none (by simp)]
  refine (Try.strings_Repeat_main s c E.w0 hc2 hc hlen h0).mono fun e w' h => ?_
  obtain ⟨rfl, hb⟩ := h
  refine ⟨_, σ, rfl, fun _ _ => rfl, .data .str, ⟨by intro k B h; simp [aget] at h, by intro k B b h; simp [aget] at h, by intro k k' B B' b h; simp [aget] at h, hb.os, hb.tape, hb.output, hb.size, fun b hb1 _ => hb.block b hb1, hm.hbad⟩⟩
end Go.Hb
