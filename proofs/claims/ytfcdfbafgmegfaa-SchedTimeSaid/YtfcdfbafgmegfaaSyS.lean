/-
  THE SYMBOLIC LAYER, PART S: own boxes taken for data ('frz'), a literal's row taken for one that grows ('vec'); running on ('seg').
-/
import Derived.Test.YtfcdfbafgmegfaaSyR
namespace Go.Hb
open Go.RowKit

/-- What is done to a state ahead of a region: a box is written no more; a row of a literal is one's own to grow. -/
inductive Pre where
  | frz (k : Nat)
  | vec (k n c : Nat)

def frzV (k : Nat) (fv : V) (fp : Nat → V) (fw : Nat → Nat → Nat → V) : V → V
  | .ptr q off => match Nat.beq q k with | true => fp off | false => .ptr q off
  | .row q off len cap => match Nat.beq q k with | true => fw off len cap | false => .row q off len cap
  | .vec q => match Nat.beq q k with | true => fv | false => .vec q
  | .vptr q sz i off => match Nat.beq q k with | true => .junk | false => .vptr q sz i off
  | .map q => match Nat.beq q k with | true => .junk | false => .map q
  | s => s

def rowSeq (sz : Nat) (l : List V) (off len cap : Nat) : V :=
  match Nat.ble (off + len * sz) l.length && Nat.ble len cap with
  | true => .seq sz len fun i => (l.drop (off + i * sz)).take sz
  | false => .junk

def vecW (k n c off len cap : Nat) : V :=
  match Nat.beq off 0 && Nat.beq len n && Nat.beq cap c with
  | true => .vec k
  | false => .junk

def pre1 (P : Program) (S : St) : Pre → Option St
  | .frz k => match aget S.bx k with
    | some (.vec _ sz n g) => some { S with fr := mapFr (frzV k (.seq sz n g) (fun _ => .junk) fun _ _ _ => .junk) S.fr, bx := mapBx (frzV k (.seq sz n g) (fun _ => .junk) fun _ _ _ => .junk) (adel S.bx k) }
    | some (.cells ty l) => match szT P ty, allD l with
      | some sz, true => some { S with fr := mapFr (frzV k .junk (fun off => .rfp l off) (rowSeq sz l)) S.fr, bx := mapBx (frzV k .junk (fun off => .rfp l off) (rowSeq sz l)) (adel S.bx k) }
      | _, _ => none
    | _ => none
  | .vec k n c => match aget S.bx k with
    | some (.cells ty l) => match szT P ty with
      | some sz => match Nat.beq (c * sz) l.length && Nat.ble n c && allD l && Nat.ble c 65536 with
        | true => some { S with
            fr := mapFr (frzV k .junk (fun _ => .junk) (vecW k n c)) S.fr
            bx := aput (mapBx (frzV k .junk (fun _ => .junk) (vecW k n c)) (adel S.bx k)) k (.vec ty sz n fun i => (l.drop (i * sz)).take sz) }
        | false => none
      | none => none
    | _ => none

def preOk (m : Nat) : Pre → Bool
  | .frz _ => true
  | .vec k _ _ => Nat.ble m k

def pres (P : Program) (m : Nat) : List Pre → St → Option St
  | [], S => some S
  | p :: l, S => match preOk m p, pre1 P S p with
    | true, some S' => pres P m l S'
    | _, _ => none

section
variable {P : Program} {f : FuncId} {m : Nat} {res : V} {bx1 : List (Nat × Box)} {E : Env} {σ σ' : Nat → Option Value} {S S' : St} {a : Act} {w : World} {bad bad' : Nat → Prop}

theorem frzV_ok {k : Nat} {fv : V} {fp : Nat → V} {fw : Nat → Nat → Nat → V} (hσ : ∀ q, q ≠ k → σ' q = σ q)
    (h1 : ∀ v, CV σ w bad (.vec k) v → CV σ' w bad' fv v) (h2 : ∀ off v, CV σ w bad (.ptr k off) v → CV σ' w bad' (fp off) v) (h3 : ∀ off len cap v, CV σ w bad (.row k off len cap) v → CV σ' w bad' (fw off len cap) v) :
    ∀ s v, V.isK s = true → CV σ w bad s v → CV σ' w bad' (frzV k fv fp fw s) v := by
  intro s v hs hv
  have hne : ∀ {q}, Nat.beq q k = false → q ≠ k := fun h e => by subst e; simp at h
  cases s <;> simp [V.isK] at hs <;> simp only [frzV] <;> split
  · rename_i hq; rw [Nat.beq_eq] at hq; subst hq; exact h2 _ _ hv
  · rename_i hq
    cases hv with
    | data hd => cases hd
    | ptr b h => exact .ptr b (by rw [hσ _ (hne hq)]; exact h)
  · rename_i hq; rw [Nat.beq_eq] at hq; subst hq; exact h3 _ _ _ _ hv
  · rename_i hq
    cases hv with
    | data hd => cases hd
    | row b h => exact .row b (by rw [hσ _ (hne hq)]; exact h)
  · rename_i hq; rw [Nat.beq_eq] at hq; subst hq; exact h1 _ hv
  · rename_i hq
    cases hv with
    | data hd => cases hd
    | vec v h => exact .vec v (by rw [hσ _ (hne hq)]; exact h)
  · exact .junk
  · rename_i hq
    cases hv with
    | data hd => cases hd
    | vptr b n c h => exact .vptr b n c (by rw [hσ _ (hne hq)]; exact h)
  · exact .junk
  · rename_i hq
    cases hv with
    | data hd => cases hd
    | map r h => exact .map r (by rw [hσ _ (hne hq)]; exact h)

/-- A box less: its key stands for data from now on. -/
theorem Rel.frz {k : Nat} {fv : V} {fp : Nat → V} {fw : Nat → Nat → Nat → V} {B0 : Box} (h : Rel E σ S a w) (h0 : aget S.bx k = some B0)
    (h1 : ∀ bad', (∀ b, ¬ badOf E σ S.bx b → ¬ bad' b) → (∀ b, blkOf (σ k) = some b → ¬ bad' b) → ∀ v, CV σ w (badOf E σ S.bx) (.vec k) v → CV σ w bad' fv v)
    (h2 : ∀ bad', (∀ b, ¬ badOf E σ S.bx b → ¬ bad' b) → (∀ b, blkOf (σ k) = some b → ¬ bad' b) → ∀ off v, CV σ w (badOf E σ S.bx) (.ptr k off) v → CV σ w bad' (fp off) v)
    (h3 : ∀ bad', (∀ b, ¬ badOf E σ S.bx b → ¬ bad' b) → (∀ b, blkOf (σ k) = some b → ¬ bad' b) → ∀ off len cap v, CV σ w (badOf E σ S.bx) (.row k off len cap) v → CV σ w bad' (fw off len cap) v) :
    Rel E σ { S with fr := mapFr (frzV k fv fp fw) S.fr, bx := mapBx (frzV k fv fp fw) (adel S.bx k) } a w := by
  have hget : ∀ q B, aget (mapBx (frzV k fv fp fw) (adel S.bx k)) q = some B → q ≠ k ∧ ∃ B', aget S.bx q = some B' ∧ B = Box.mapK (frzV k fv fp fw) B' := by
    intro q B hg
    obtain ⟨B', hB', hB⟩ := mapBx_get _ _ _ _ hg
    rw [aget_adel] at hB'
    split at hB'
    · cases hB'
    · rename_i hne; exact ⟨hne, B', hB', hB⟩
  have hb1 : ∀ b, ¬ badOf E σ S.bx b → ¬ badOf E σ (mapBx (frzV k fv fp fw) (adel S.bx k)) b := by
    intro b hn
    rintro (hb | ⟨q, B, hg, hqb⟩)
    · exact hn (.inl hb)
    · obtain ⟨_, B', hB', _⟩ := hget q B hg
      exact hn (.inr ⟨q, B', hB', hqb⟩)
  have hb2 : ∀ b, blkOf (σ k) = some b → ¬ badOf E σ (mapBx (frzV k fv fp fw) (adel S.bx k)) b := by
    intro b hkb
    rintro (hb | ⟨q, B, hg, hqb⟩)
    · exact (h.own k B0 b h0 hkb).2.1 hb
    · obtain ⟨hne, B', hB', _⟩ := hget q B hg
      exact hne (h.dist q k B' B0 b hB' h0 hqb hkb)
  have hmono : ∀ b, b < w.heap.size → ¬ badOf E σ S.bx b → ¬ badOf E σ (mapBx (frzV k fv fp fw) (adel S.bx k)) b ∧ w.heap[b]? = w.heap[b]? := fun b _ hn => ⟨hb1 b hn, rfl⟩
  have hφ := frzV_ok (σ' := σ) (fun _ _ => rfl) (h1 _ hb1 hb2) (h2 _ hb1 hb2) (h3 _ hb1 hb2)
  refine ⟨⟨fun q B hg => ?_, fun q B b hg hqb => ?_, fun q q' B B' b hg hg' hqb hqb' => ?_, h.os, h.tape, h.output, h.size, h.old, h.hbad⟩, h.dfs, h.nt, fun t s hs => ?_⟩
  · obtain ⟨_, B', hB', rfl⟩ := hget q B hg
    exact (h.box q B' hB').mapK rfl hmono hφ
  · obtain ⟨_, B', hB', _⟩ := hget q B hg
    exact h.own q B' b hB' hqb
  · obtain ⟨_, C, hC, _⟩ := hget q B hg
    obtain ⟨_, C', hC', _⟩ := hget q' B' hg'
    exact h.dist q q' C C' b hC hC' hqb hqb'
  · obtain ⟨s0, hs0, rfl⟩ := mapFr_get _ _ _ _ (show aget (mapFr (frzV k fv fp fw) S.fr) t = some s from hs)
    obtain ⟨v, hv, hc⟩ := h.fr t s0 hs0
    exact ⟨v, hv, hc.mapK hmono hφ⟩

theorem take_len {l : List V} {off len sz i : Nat} (h : off + len * sz ≤ l.length) (hi : i < len) : ((l.drop (off + i * sz)).take sz).length = sz := by
  have : (i + 1) * sz ≤ len * sz := Nat.mul_le_mul_right sz hi
  rw [Nat.add_mul] at this
  simp; omega

theorem pre1_rel {p : Pre} (he : pre1 P S p = some S') (h : Rel E σ S a w) : ∃ σ', Rel E σ' S' a w ∧ (∀ k, σ k = none → σ' k = none) ∧ S'.nx = S.nx ∧ ∀ k, (∀ q n c, p = .vec q n c → k ≠ q) → σ' k = σ k := by
  cases p with
  | frz k =>
    simp only [pre1] at he
    split at he
    · rename_i ty sz n g h0
      injection he with he; subst he
      refine ⟨σ, h.frz h0 (fun bad' hb1 hb2 v hv => ?_) (fun _ _ _ _ _ _ => .junk) (fun _ _ _ _ _ _ _ _ => .junk), fun _ h => h, rfl, fun _ _ => rfl⟩
      cases hv with
      | data hd => cases hd
      | vec v hv =>
        cases h.box k _ h0 with
        | vec v' xs hk ho hl hc =>
          rw [hk] at hv
          injection hv with hv; subst hv
          rcases ho.2 with ⟨rfl, rfl⟩ | ⟨b, cap, cur, rfl, _, hg, hnc, _, hcur, htake⟩
          · exact .data (.seq none 0 0 0 (fun _ _ => undef) (by simp) (Nat.le_refl _) (by simp) (by simp) (by simp) (fun _ => rfl))
          · have hlen := ho.1
            refine .data (.seq _ b 0 cap (fun i j => xs.getD (i * sz + j) undef) (fun _ => rfl) hnc hl (fun i j hi hj => ⟨hb2 b (by rw [hk]; rfl), ?_⟩) (fun i j s hi hs => ?_) (fun h => by cases h))
            · have hlt := mul_lt hi hj
              have hx : xs[i * sz + j]? = some (xs.getD (i * sz + j) undef) := by simp [List.getD, List.getElem?_eq_getElem (show i * sz + j < xs.length by omega)]
              rw [Nat.zero_add, cell_of_row w b _ cur ty (0, 0) hg, ← hx, ← htake, List.getElem?_take, if_pos hlt]
              simp
            · obtain ⟨x, h2, h3⟩ := hc i j s hi hs
              have : xs.getD (i * sz + j) undef = x := by simp [List.getD, h2]
              rw [this]
              exact h3.mono fun b _ hn => ⟨hb1 b hn, rfl⟩
    · rename_i ty l h0
      split at he
      · rename_i sz hsz hall
        injection he with he; subst he
        refine ⟨σ, h.frz h0 (fun _ _ _ _ hv => ?_) (fun bad' hb1 hb2 off v hv => ?_) (fun bad' hb1 hb2 off len cap v hv => ?_), fun _ h => h, rfl, fun _ _ => rfl⟩
        · exact .junk
        · cases hv with
          | data hd => cases hd
          | ptr b hv =>
            cases h.box k _ h0 with
            | cells b' cs hk hh hs hc =>
              rw [hk] at hv
              injection hv with hv; injection hv with hv; injection hv with hv; injection hv with hv
              subst hv
              have := CD.rfp (w := w) (bad := bad') (l := l) (off := off) b' 0 (fun j => cs.getD j undef) (fun j hj => ⟨hb2 b' (by rw [hk]; rfl), by simp [World.cell?, hh, hs, hj]⟩) fun j s hj => by
                obtain ⟨v, h1, h2, _⟩ := hc j s hj
                have : cs.getD j undef = v := by simp [h1]
                rw [this]
                exact (h2.toD (allD_get hall j s hj)).mono fun b _ hn => ⟨hb1 b hn, rfl⟩
              rw [Nat.zero_add] at this
              exact .data this
        · cases hv with
          | data hd => cases hd
          | row b hv =>
            cases h.box k _ h0 with
            | cells b' cs hk hh hs hc =>
              rw [hk] at hv
              injection hv with hv; injection hv with hv; injection hv with hv; injection hv with hv
              subst hv
              unfold rowSeq
              split
              · rename_i hb
                simp only [Bool.and_eq_true] at hb
                have h1 := Nat.le_of_ble_eq_true hb.1
                have h2 := Nat.le_of_ble_eq_true hb.2
                refine .data (.seq _ b' off cap (fun i j => cs.getD (off + i * sz + j) undef) (fun _ => rfl) h2 (fun i hi => take_len h1 hi) (fun i j hi hj => ⟨hb2 b' (by rw [hk]; rfl), ?_⟩) (fun i j s hi hs' => ?_) (fun h => by cases h))
                · have hlt := mul_lt hi hj
                  have : off + i * sz + j < cs.size := by omega
                  rw [← Nat.add_assoc]; simp [World.cell?, hh, this]
                · have hj : j < sz := by have := (List.getElem?_eq_some_iff.1 hs').1; simp at this; omega
                  rw [List.getElem?_take, if_pos hj, List.getElem?_drop] at hs'
                  obtain ⟨v, g1, g2, _⟩ := hc _ s hs'
                  have : cs.getD (off + i * sz + j) undef = v := by simp [g1]
                  rw [this]
                  exact (g2.toD (allD_get hall _ s hs')).mono fun b _ hn => ⟨hb1 b hn, rfl⟩
              · exact .junk
      · cases he
    · cases he
  | vec k n c =>
    simp only [pre1] at he
    split at he
    · rename_i ty l h0
      split at he
      · rename_i sz hsz
        split at he
        · rename_i hb
          simp only [Bool.and_eq_true, Nat.beq_eq] at hb
          obtain ⟨⟨⟨hcl, hnc⟩, hall⟩, hcm⟩ := hb
          have hnc := Nat.le_of_ble_eq_true hnc
          have hcm := Nat.le_of_ble_eq_true hcm
          injection he with he; subst he
          cases h.box k _ h0 with
          | cells b cs hk hh hs hc =>
            let φ := frzV k .junk (fun _ => .junk) (vecW k n c)
            let σ1 : Nat → Option Value := fun q => if q = k then some (.slice (some ⟨b, 0, none⟩) n c) else σ q
            have hσk : σ1 k = some (.slice (some ⟨b, 0, none⟩) n c) := if_pos rfl
            have hσn : ∀ q, q ≠ k → σ1 q = σ q := fun q hq => if_neg hq
            have hblk : ∀ q, blkOf (σ1 q) = blkOf (σ q) := by
              intro q
              by_cases hq : q = k
              · subst hq; rw [hσk, hk]; rfl
              · rw [hσn q hq]
            have hget : ∀ q B, aget (aput (mapBx φ (adel S.bx k)) k (.vec ty sz n fun i => (l.drop (i * sz)).take sz)) q = some B → (q = k ∧ B = .vec ty sz n fun i => (l.drop (i * sz)).take sz) ∨ (q ≠ k ∧ ∃ B', aget S.bx q = some B' ∧ B = Box.mapK φ B') := by
              intro q B hg
              rw [aget_aput] at hg
              split at hg
              · rename_i hq; injection hg with hg; exact .inl ⟨hq, hg.symm⟩
              · rename_i hq
                obtain ⟨B', hB', hB⟩ := mapBx_get _ _ _ _ hg
                rw [aget_adel, if_neg hq] at hB'
                exact .inr ⟨hq, B', hB', hB⟩
            have hbx : ∀ q B, aget (aput (mapBx φ (adel S.bx k)) k (.vec ty sz n fun i => (l.drop (i * sz)).take sz)) q = some B → ∃ B', aget S.bx q = some B' := by
              intro q B hg
              rcases hget q B hg with ⟨rfl, _⟩ | ⟨_, B', hB', _⟩
              · exact ⟨_, h0⟩
              · exact ⟨B', hB'⟩
            have hbad : ∀ b, ¬ badOf E σ S.bx b → ¬ badOf E σ1 (aput (mapBx φ (adel S.bx k)) k (.vec ty sz n fun i => (l.drop (i * sz)).take sz)) b := by
              intro b hn
              rintro (hb | ⟨q, B, hg, hqb⟩)
              · exact hn (.inl hb)
              · obtain ⟨B', hB'⟩ := hbx q B hg
                rw [hblk] at hqb
                exact hn (.inr ⟨q, B', hB', hqb⟩)
            have hmono : ∀ b, b < w.heap.size → ¬ badOf E σ S.bx b → ¬ badOf E σ1 (aput (mapBx φ (adel S.bx k)) k (.vec ty sz n fun i => (l.drop (i * sz)).take sz)) b ∧ w.heap[b]? = w.heap[b]? := fun b _ hn => ⟨hbad b hn, rfl⟩
            have hφ : ∀ s v, V.isK s = true → CV σ w (badOf E σ S.bx) s v → CV σ1 w (badOf E σ1 (aput (mapBx φ (adel S.bx k)) k (.vec ty sz n fun i => (l.drop (i * sz)).take sz))) (φ s) v := by
              refine frzV_ok hσn (fun _ _ => .junk) (fun _ _ _ => .junk) fun off len cap v hv => ?_
              unfold vecW
              split
              · rename_i hb
                simp only [Bool.and_eq_true, Nat.beq_eq] at hb
                obtain ⟨⟨rfl, rfl⟩, rfl⟩ := hb
                cases hv with
                | data hd => cases hd
                | row b' hv =>
                  rw [hk] at hv
                  injection hv with hv; injection hv with hv; injection hv with hv; injection hv with hv
                  subst hv
                  exact .vec _ hσk
              · exact .junk
            have hnl : n * sz ≤ l.length := by rw [← hcl]; exact Nat.mul_le_mul_right sz hnc
            have hmax : c ≤ maxLen := by
              have : 65536 ≤ maxLen := by decide
              omega
            refine ⟨σ1, ⟨⟨fun q B hg => ?_, fun q B b' hg hqb => ?_, fun q q' B B' b' hg hg' hqb hqb' => ?_, h.os, h.tape, h.output, h.size, h.old, h.hbad⟩, h.dfs, h.nt, fun t s hs' => ?_⟩, fun q hq => ?_, rfl, fun q hq => hσn q (hq k n c rfl)⟩
            · rcases hget q B hg with ⟨rfl, rfl⟩ | ⟨hq, B', hB', rfl⟩
              · refine .vec _ (cs.toList.take (n * sz)) hσk ⟨by simp; omega, .inr ⟨b, c, cs, rfl, Nat.zero_le _, hh, hnc, hmax, by omega, rfl⟩⟩ (fun i hi => ?_) fun i j s hi hs' => ?_
                · have := take_len (l := l) (off := 0) (sz := sz) (len := n) (by omega) hi
                  simpa using this
                · have hj : j < sz := by have := (List.getElem?_eq_some_iff.1 hs').1; simp at this; omega
                  have hlt := mul_lt hi hj
                  rw [List.getElem?_take, if_pos hj, List.getElem?_drop] at hs'
                  obtain ⟨v, g1, g2, _⟩ := hc _ s hs'
                  refine ⟨v, by rw [List.getElem?_take, if_pos hlt]; simpa using g1, ?_⟩
                  exact (g2.toD (allD_get hall _ s hs')).mono hmono
              · exact (h.box q B' hB').mapK (hσn q hq) hmono hφ
            · obtain ⟨B', hB'⟩ := hbx q B hg
              rw [hblk] at hqb
              exact h.own q B' b' hB' hqb
            · obtain ⟨C, hC⟩ := hbx q B hg
              obtain ⟨C', hC'⟩ := hbx q' B' hg'
              rw [hblk] at hqb hqb'
              exact h.dist q q' C C' b' hC hC' hqb hqb'
            · obtain ⟨s0, hs0, rfl⟩ := mapFr_get _ _ _ _ (show aget (mapFr φ S.fr) t = some s from hs')
              obtain ⟨v, hv, hc'⟩ := h.fr t s0 hs0
              exact ⟨v, hv, hc'.mapK hmono hφ⟩
            · by_cases hqk : q = k
              · subst hqk; rw [hk] at hq; cases hq
              · rw [hσn q hqk]; exact hq
        · cases he
      · cases he
    · cases he

theorem GoTo.pres {todo : List Item} : ∀ {l : List Pre} {S S' : St}, pres P m l S = some S' → GoTo P f m res bx1 todo S' → GoTo P f m res bx1 todo S
  | [], S, S', he, h => by simp [Hb.pres] at he; subst he; exact h
  | p :: l, S, S', he, h => by
    unfold Hb.pres at he
    split at he
    · rename_i S1 hp h1
      have h2 := GoTo.pres he h
      intro E σ a w b cs hb hk hr hf hnx
      obtain ⟨σ1, g1, g2, g3, g4⟩ := pre1_rel h1 hr
      obtain ⟨e, w', fr, k1, k2, k3, v, σ', k4, k5, k6⟩ := h2 E σ1 a w b cs hb hk g1 (fun k hk => g2 k (hf k (by omega))) (by omega)
      exact ⟨e, w', fr, k1, k2, k3, v, σ', k4, fun k hk => by
        rw [k5 k hk]
        refine g4 k fun q n c e => ?_
        subst e
        have := Nat.le_of_ble_eq_true (show Nat.ble m q = true from hp)
        omega, k6⟩
    · cases he
end
end Go.Hb
