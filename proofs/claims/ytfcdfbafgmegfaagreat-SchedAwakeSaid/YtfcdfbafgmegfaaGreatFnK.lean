/-
  THE FUNCTIONS, PART K: layer 27's example; who goes on of any machine is the document's.
-/
import Derived.Test.YtfcdfbafgmegfaaGreatFnJ
import Derived.Test.YtfcdfbafgmegfaaGreatSpR
import Derived.Test.YtfcdfbafgmegfaaGreatWkG2
namespace Go.Hb
open Go.RowKit Go.Proofs

set_option maxRecDepth 100000
theorem Le.seqL {sz n : Nat} {f g : Nat → List V} (h : ∀ i, i < n → LeL (f i) (g i)) (hd : ∀ i, i < n → allD (g i) = true) : Le (.seq sz n f) (.seq sz n g) := fun σ w bad v hv => by
  cases hv with
  | data h1 =>
    cases h1 with
    | seq o b off c u ho hnc hl hc hd' hz =>
      refine .data (.seq o b off c u ho hnc (fun i hi => by rw [← (h i hi).get.1]; exact hl i hi) hc (fun i j s hi hj => ?_) hz)
      obtain ⟨s', h2, h3⟩ := (h i hi).get.2 j s hj
      exact (h3 σ w bad _ (.data (hd' i j s' hi h2))).toD (allD_get (hd i hi) j s hj)

/-- Layer 25's small machine. -/
def zero128 : ByteArray := ⟨(Lib.repeatL [0] 128).toArray⟩
def bareM : Mac := { clock := 0, quantum := 3, cur := 0, left := 0, frames := ⟨4, fun _ => zero128⟩, procs := ⟨0, fun _ => rdy 0⟩, next := 1, init := ⟨#[]⟩, pipes := ⟨0, fun _ => num0⟩, newpipe := 1, inn := ⟨#[]⟩, endd := false, told := 0, drive := drvOf (fmtB 6), dirty := ⟨0, fun _ => num0⟩ }

theorem bare_spec : SpecD Tryz.prog 44 [] (.agg bareM.e) := by
  refine (specE_of (Tryz.func44) (by kernel_rfl) (by kernel_rfl) (by kernel_rfl) ?_).le
  refine w31_0 (fmtB 6) (drvOf (fmtB 6)) zero128 ⟨fmt17_spec, fmt16_spec (fmtB 6) (by decide) (by decide) (fun j _ => fmtB_size 6 (by omega) j), repeat_spec ⟨#[0]⟩ 128 (by omega) (by omega) (by decide) (by decide), ?_⟩
  refine .agg (.cons (.refl _) <| .cons (.refl _) <| .cons (.refl _) <| .cons (.refl _) <| .cons (.seq rfl fun i hi => ?_) <| .cons (Le.nil 96 _) <| .cons (.refl _) <| .cons (.refl _) <| .cons (Le.nil 2 _) <| .cons (.refl _) <| .cons (.refl _) <|
    .cons (Le.tt false) <| .cons (.refl _) <| .cons (.refl _) <| .cons (.refl _) <| .cons (.refl _) <| .cons (Le.nil 2 _) .nil)
  have : i = 0 ∨ i = 1 ∨ i = 2 ∨ i = 3 := by omega
  rcases this with rfl | rfl | rfl | rfl <;> rfl

def two : Sq Prc := ⟨2, fun i => rdy (i + 1)⟩
def fixM : Mac := { bareM with cur := 1, left := 0, next := 3, procs := two }
theorem fix1 : (pickM fixM).cur = 2 := by kernel_rfl
theorem fix2 : (pickM { pickM fixM with left := 0 }).cur = 1 := by kernel_rfl
theorem fix3 : (pickM fixM).procs.n = 2 := by kernel_rfl

theorem two_le : Le (rowSeq 96 (prcRdy 1 ++ prcRdy 2) 0 2 2) (prcs two) := by
  refine Le.seqL (fun i hi => ?_) (fun i hi => ?_)
  · have : i = 0 ∨ i = 1 := by omega
    rcases this with rfl | rfl
    · exact rdy_le 1
    · exact rdy_le 2
  · rfl

theorem fixed_spec : SpecD Tryz.prog 16 [] (.bool true) := by
  refine (specE_of (Tryz.func16) (by kernel_rfl) (by kernel_rfl) (by kernel_rfl) ?_).le
  have h1 : SpecD Tryz.prog 45 [.agg [.int .u64 (bareM.clock), .int .i64 (bareM.quantum), .int .i64 ((1 : Int)), .int .i64 ((0 : Int)), strs bareM.frames, rowSeq 96 (prcRdy 1 ++ prcRdy 2) 0 2 2, .int .i64 ((3 : Int)), .str (bareM.init), nums bareM.pipes, .int .i64 (bareM.newpipe), .str (bareM.inn), .bool (bareM.endd), .int .u64 (bareM.told), strs bareM.drive.blocks, nums bareM.drive.pending, .int .i64 (bareM.drive.left), nums bareM.dirty]] (.agg (pickM fixM).e) :=
    (pick_spec fixM (by decide)).args (.cons (.agg (.cons (.refl _) <| .cons (.refl _) <| .cons (.refl _) <| .cons (.refl _) <| .cons (.refl _) <| .cons two_le (.refl _))) .nil)
  have h2 := pick_spec { pickM fixM with left := 0 } (by show (pickM fixM).procs.n ≤ _; rw [fix3]; decide)
  apply w21_0 bareM (pickM fixM) (pickM { pickM fixM with left := 0 })
  case c_t => intro _; refine ⟨bare_spec, h1, h2, ?_⟩; rw [fix2]; exact Le.refl _
  case c_f => intro h; rw [fix1] at h; cases h

theorem pickEnd_at (m : Mac) (a l : Int) : ∃ c q, pickEnd m a l = { m with cur := c, left := q } := by
  unfold pickEnd
  repeat' split
  all_goals exact ⟨_, _, rfl⟩
theorem pickM_at (m : Mac) : ∃ c q, pickM m = { m with cur := c, left := q } := by
  unfold pickM
  split
  · exact ⟨_, _, rfl⟩
  · exact pickEnd_at m _ _

theorem Fine.rising' {m : Mac} (h : Fine m) : Rising m where
  pos := fun i hi => by
    have := h.proc i hi
    unfold procF at this
    split at this
    · cases this
    · omega
  inc := fun i hi => h.rising (i + 1) (by omega) hi

end Go.Hb
