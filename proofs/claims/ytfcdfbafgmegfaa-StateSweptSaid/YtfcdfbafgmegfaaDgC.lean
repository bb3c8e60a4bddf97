/-
  'drive.Get' in the symbolic layer; it tells the document's block.
-/
import Derived.Test.YtfcdfbafgmegfaaDgB
import Derived.Test.YtfcdfbafgmegfaaFnC
namespace Go.Hb
open Go.RowKit Go.Proofs

theorem lastK_miss (l : Sq Num) (y : Int) : ∀ (k i : Nat) (s : ByteArray), (∀ j, i ≤ j → j < i + k → (l.f j).n ≠ y) → lastK l y k i s = s
  | 0, _, _, _ => rfl
  | k + 1, i, s, h => by
    simp only [lastK]
    rw [if_neg (h i (by omega) (by omega))]
    exact lastK_miss l y k (i + 1) s fun j h1 h2 => h j (by omega) (by omega)
theorem lastK_hit (l : Sq Num) (y : Int) (q : Nat) (hq : (l.f q).n = y) : ∀ (k i : Nat) (s : ByteArray), i ≤ q → q < i + k → (∀ j, q < j → j < i + k → (l.f j).n ≠ y) → lastK l y k i s = (l.f q).s
  | 0, _, _, h1, h2, _ => by omega
  | k + 1, i, s, h1, h2, h3 => by
    simp only [lastK]
    by_cases hi : i = q
    · subst hi
      rw [if_pos hq]
      exact lastK_miss l y k (i + 1) _ fun j h4 h5 => h3 j (by omega) (by omega)
    · exact lastK_hit l y q hq k (i + 1) _ (by omega) (by omega) fun j h4 h5 => h3 j h4 (by omega)
theorem found_block {d : Drv} {i : Nat} {r : ByteArray} (h : FoundW d.pending.f d.pending.n i (d.blocks.f i) r) : r = blockF d i := by
  rcases h with ⟨rfl, h⟩ | ⟨q, hq, h1, rfl, h2⟩
  · exact (lastK_miss _ _ _ _ _ fun j _ h2 => h j (by omega)).symm
  · exact (lastK_hit _ _ q h1 _ _ _ (by omega) (by omega) fun j h3 h4 => h2 j h3 (by omega)).symm

theorem nblock_spec (d : Drv) (hp : d.pending.n ≤ 140737488355328) (i : Nat) (hi : i < d.blocks.n) : SpecD Try.prog 183 [.agg d.e, .int .i64 i] (.tup [.str (blockF d i), .int .i64 0]) := by
  refine ⟨enters_of (Try.func183) (by kernel_rfl) (c := bodyOf Try.f183) (by kernel_rfl), fun E σ vals hm hf hs hc' => ?_⟩
  obtain ⟨v0, h1, h2⟩ := hc' 0 _ rfl
  obtain ⟨v1, h3, h4⟩ := hc' 1 _ rfl
  obtain rfl : v1 = .int .i64 i := by
    cases h4 with
    | data h => cases h; rfl
  have hvals : vals = #[v0, .int .i64 i] := by
    apply Array.ext_getElem?
    intro j
    match j with
    | 0 => rw [h1]; rfl
    | 1 => rw [h3]; rfl
    | j + 2 =>
      have hs : vals.size = 2 := hs
      rw [Array.getElem?_eq_none (by omega)]; rfl
  cases h2 with
  | data h => cases h
  | agg vs u hsz hv hone hd =>
    have g0 := hd 0 _ rfl
    have g1 := hd 1 _ rfl
    have g2 := hd 2 _ rfl
    have hvs : vs = #[u 0, u 1, u 2] := by
      apply Array.ext_getElem?
      intro j
      match j with
      | 0 => rw [hv 0 (show 0 < 3 by omega)]; rfl
      | 1 => rw [hv 1 (show 1 < 3 by omega)]; rfl
      | 2 => rw [hv 2 (show 2 < 3 by omega)]; rfl
      | j + 3 =>
        have hsz : vs.size = 3 := hsz
        rw [Array.getElem?_eq_none (by omega)]; rfl
    have hbl := g0.toD rfl
    have hpl := g1.toD rfl
    have hll := g2.toD rfl
    generalize u 0 = x0 at hvs hbl
    generalize u 1 = x1 at hvs hpl
    generalize u 2 = x2 at hvs hll
    cases hll
    cases hbl with
    | seq o b off c ub ho hnc hl hcc hdd hz =>
      cases hpl with
      | seq o1 b1 off1 c1 ub1 ho1 hnc1 hl1 hcc1 hdd1 hz1 =>
        have hob := ho (by omega)
        have hcell : E.w0.cell? ⟨b, off + (i : Int).toNat, none⟩ = some (.string (d.blocks.f i)) := by
          have h5 := (hcc i 0 hi (by omega)).2
          have h6 := hdd i 0 _ hi rfl
          generalize ub i 0 = z at h5 h6
          cases h6
          rw [← h5]
          simp
        have hP : HoldsW E.w0.heap.size E.w0 (.slice o1 d.pending.n c1) d.pending.n d.pending.f := by
          by_cases hn : d.pending.n = 0
          · exact .inl ⟨hn, o1, c1, by rw [hn]⟩
          · have hlt : b1 < E.w0.heap.size := World.block_lt_of_cell? E.w0 _ (hcc1 0 0 (by omega) (by omega)).2
            refine .inr ⟨b1, off1, c1, by rw [ho1 (by omega)], hlt, fun j hj => ?_⟩
            have a5 := (hcc1 j 0 hj (by omega)).2
            have a6 := hdd1 j 0 _ hj rfl
            have b5 := (hcc1 j 1 hj (by omega)).2
            have b6 := hdd1 j 1 _ hj rfl
            generalize ub1 j 0 = z at a5 a6
            generalize ub1 j 1 = z1 at b5 b6
            cases a6
            cases b6
            exact ⟨by rw [← a5]; simp, by rw [← b5]; simp [Nat.add_assoc]⟩
        rw [hvals, hvs]
        refine (callsIn_wide (n := 3)).1 ?_
        refine (Try.get_in _ 3 trivial trivial trivial rfl (by omega) o d.blocks.n c (.slice o1 d.pending.n c1) o1 d.pending.n c1 d.left i d.pending.f (d.blocks.f i) E.w0 rfl hp (by omega) (by omega) b off hob hcell hP).mono ?_
        rintro e w' ⟨r, rfl, hfound, hB⟩
        refine ⟨_, σ, rfl, fun k hk => absurd hk (Nat.not_lt_zero k), ?_, ⟨fun k B hg => ?_, fun k B b hg => ?_, fun k k' B B' b hg => ?_, hB.os, hB.tape, hB.output, hB.size, fun b hb _ => hB.block b hb, hm.hbad⟩⟩
        · rw [found_block hfound]
          refine .tup #[.string (blockF d i), .int .i64 0] (fun j => if j = 0 then .string (blockF d i) else .int .i64 0) rfl (fun j hj => ?_) (fun j s hj => ?_)
          · match j with
            | 0 => rfl
            | 1 => rfl
            | j + 2 => have hj : j + 2 < 2 := hj; omega
          · match j with
            | 0 => cases hj; exact .data .str
            | 1 => cases hj; exact .data .int
            | j + 2 => cases hj
        · cases hg
        · cases hg
        · cases hg
end Go.Hb
