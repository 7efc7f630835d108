/- The abstract machine, 5: moves of a whole state: a new block; a row grown; a store; blocks left aside. -/
import Derived.Test.YtfjjeijkbhcoaaaBiRel2
set_option linter.unusedVariables false
namespace Go.Proofs.Ai
open Go

def upd (μ : Nat → Value) (b : Nat) (u : Value) : Nat → Value := fun c => if c = b then u else μ c
theorem upd_self (μ : Nat → Value) (b : Nat) (u : Value) : upd μ b u b = u := if_pos rfl
theorem upd_ne {μ : Nat → Value} {b c : Nat} {u : Value} (h : c ≠ b) : upd μ b u c = μ c := if_neg h

section push
variable {X : Nat → Prop} {μ : Nat → Value} {H : AHeap} {w w' : World} {u : Value} {B : Blk}

theorem push_old : ∀ c B', c < H.length → getH (H ++ [some B]) c = some B' → upd μ H.length u c = μ c ∧ ∃ B, getH H c = some B ∧ sameKind B B' := fun c B' hc h => by
  rw [getH_append_old hc] at h
  exact ⟨upd_ne (by omega), B', h, sameKind.refl _⟩
theorem push_fz (h : Rel X μ H w) (hsize : w.heap.size ≤ w'.heap.size) (hheap : ∀ k, k < w.heap.size → w'.heap[k]? = w.heap[k]?) (hu : ∀ k, blkOf u = some k → w.heap.size ≤ k) :
    ∀ k, Fz X μ H w k → Fz X (upd μ H.length u) (H ++ [some B]) w' k ∧ w'.heap[k]? = w.heap[k]? := fun k hk => by
  refine ⟨⟨Nat.lt_of_lt_of_le hk.1 hsize, hk.2.1, ?_⟩, hheap k hk.1⟩
  rintro ⟨c, B', hc, e⟩
  rcases getH_push hc with ⟨hlt, hc'⟩ | ⟨rfl, _⟩
  · rw [upd_ne (by omega)] at e
    exact hk.2.2 ⟨c, B', hc', e⟩
  · rw [upd_self] at e
    have := hu k e
    have := hk.1
    omega
theorem push_rep (h : Rel X μ H w) (hsize : w.heap.size ≤ w'.heap.size) (hheap : ∀ k, k < w.heap.size → w'.heap[k]? = w.heap[k]?) (hu : ∀ k, blkOf u = some k → w.heap.size ≤ k) {x : AV} {v : Value}
    (hx : Rep μ H w (Fz X μ H w) x v) : Rep (upd μ H.length u) (H ++ [some B]) w' (Fz X (upd μ H.length u) (H ++ [some B]) w') x v :=
  hx.keep (by simp) push_old (push_fz h hsize hheap hu)

/-- A new block. -/
theorem Rel.push (h : Rel X μ H w) (hsize : w.heap.size ≤ w'.heap.size) (hos : w'.os = w.os) (htape : TapeOK w w') (hout : w'.output = w.output) (hheap : ∀ k, k < w.heap.size → w'.heap[k]? = w.heap[k]?)
    (hu : ∀ k, blkOf u = some k → w.heap.size ≤ k) (hB : BRep (upd μ H.length u) (H ++ [some B]) w' (Fz X (upd μ H.length u) (H ++ [some B]) w') H.length B) :
    Rel X (upd μ H.length u) (H ++ [some B]) w' ∧ Keep H.length μ H w (upd μ H.length u) (H ++ [some B]) w' := by
  have hmv := push_fz (B := B) h hsize hheap hu
  refine ⟨⟨fun k hk => Nat.lt_of_lt_of_le (h.xlt k hk) hsize, fun c B' k hc e => ?_, fun c c' B1 B2 k hc hc' e e' => ?_, fun c B' hc => ?_⟩, ⟨hsize, hos, htape, hout, fun k hk _ => hheap k hk, fun k hk hn => ?_, by simp, push_old⟩⟩
  · rcases getH_push hc with ⟨hlt, hc'⟩ | ⟨rfl, _⟩
    · rw [upd_ne (by omega)] at e; exact h.notX c B' k hc' e
    · rw [upd_self] at e
      intro hX
      have := hu k e
      have := h.xlt k hX
      omega
  · rcases getH_push hc with ⟨hlt, hc1⟩ | ⟨rfl, _⟩ <;> rcases getH_push hc' with ⟨hlt', hc2⟩ | ⟨rfl, _⟩
    · rw [upd_ne (by omega)] at e e'; exact h.dis c c' _ _ k hc1 hc2 e e'
    · rw [upd_ne (by omega)] at e
      rw [upd_self] at e'
      have := hu k e'
      have := h.lt hc1 e
      omega
    · rw [upd_self] at e
      rw [upd_ne (by omega)] at e'
      have := hu k e
      have := h.lt hc2 e'
      omega
    · rfl
  · rcases getH_push hc with ⟨hlt, hc'⟩ | ⟨rfl, rfl⟩
    · have hrep := h.blk c B' hc'
      cases B' with
      | var cty cells =>
        obtain ⟨g, cur, e, hg, hcs, hcell⟩ := hrep
        refine ⟨g, cur, by rw [upd_ne (by omega)]; exact e, (hheap g (Array.getElem?_eq_some_iff.1 hg).1).trans hg, hcs, fun i x hx => ⟨push_rep h hsize hheap hu (hcell i x hx).1, (hcell i x hx).2⟩⟩
      | row cty csz cels =>
        obtain ⟨h1, h2, vals, ho, hv⟩ := hrep
        refine ⟨h1, h2, vals, ?_, fun i j x f hx hf => (hv i j x f hx hf).move hmv⟩
        rw [upd_ne (by omega)]
        exact ownsRow_move ho (fun k hk => hheap k (h.lt hc' hk))
      | obj o => exact BRep.objMove hrep (upd_ne (by omega)) (fun k hk => hheap k (h.lt hc' hk))
    · exact hB
  · rintro ⟨c, B', hc, e⟩
    rcases getH_push hc with ⟨hlt, hc'⟩ | ⟨rfl, _⟩
    · rw [upd_ne (by omega)] at e; exact hn ⟨c, B', hc', e⟩
    · rw [upd_self] at e
      have := hu k e
      omega
end push

section app
variable {X : Nat → Prop} {μ : Nat → Value} {H : AHeap} {w w' : World} {u : Value} {b ty sz : Nat} {els els' : List (List FV)}

theorem app_get (hb : getH H b = some (.row ty sz els)) {c : Nat} {B' : Blk} (h : getH (setH (subH b .junk H) b (some (.row ty sz els'))) c = some B') : (c = b ∧ B' = .row ty sz els') ∨ (c ≠ b ∧ subB b .junk (getH H c) = some B') := by
  by_cases hc : c = b
  · subst hc
    rw [getH_setH_self (by rw [subH_length]; exact getH_lt hb)] at h
    exact .inl ⟨rfl, (Option.some.inj h).symm⟩
  · rw [getH_setH_ne hc, subH_get] at h
    exact .inr ⟨hc, h⟩
theorem app_fz (h : Rel X μ H w) (hb : getH H b = some (.row ty sz els)) (hsize : w.heap.size ≤ w'.heap.size) (hheap : ∀ k, k < w.heap.size → blkOf (μ b) ≠ some k → w'.heap[k]? = w.heap[k]?) (hu : ∀ k, blkOf u = some k → blkOf (μ b) = some k ∨ w.heap.size ≤ k) :
    ∀ k, Fz X μ H w k → Fz X (upd μ b u) (setH (subH b .junk H) b (some (.row ty sz els'))) w' k ∧ w'.heap[k]? = w.heap[k]? := fun k hk => by
  refine ⟨⟨Nat.lt_of_lt_of_le hk.1 hsize, hk.2.1, ?_⟩, hheap k hk.1 (fun e => hk.2.2 ⟨b, _, hb, e⟩)⟩
  rintro ⟨c, B', hc, e⟩
  rcases app_get hb hc with ⟨rfl, _⟩ | ⟨hcb, hc'⟩
  · rw [upd_self] at e
    rcases hu k e with e' | hge
    · exact hk.2.2 ⟨c, _, hb, e'⟩
    · have := hk.1; omega
  · rw [upd_ne hcb] at e
    obtain ⟨B0, hB0, _⟩ := subB_kind _ _ hc'
    exact hk.2.2 ⟨c, B0, hB0, e⟩
theorem app_rep (h : Rel X μ H w) (hb : getH H b = some (.row ty sz els)) (hsize : w.heap.size ≤ w'.heap.size) (hheap : ∀ k, k < w.heap.size → blkOf (μ b) ≠ some k → w'.heap[k]? = w.heap[k]?) (hu : ∀ k, blkOf u = some k → blkOf (μ b) = some k ∨ w.heap.size ≤ k)
    {x : AV} {v : Value} (hx : Rep μ H w (Fz X μ H w) x v) :
    Rep (upd μ b u) (setH (subH b .junk H) b (some (.row ty sz els'))) w' (Fz X (upd μ b u) (setH (subH b .junk H) b (some (.row ty sz els'))) w') (subA b .junk x) v :=
  hx.sub hb ⟨_, _, _, rfl⟩ (by rw [length_setH, subH_length]; exact Nat.le_refl _) (fun c B' hc _ h' => by
    rcases app_get hb h' with ⟨rfl, _⟩ | ⟨_, hc'⟩
    · exact absurd rfl hc
    · exact ⟨upd_ne hc, subB_kind _ _ hc'⟩) (app_fz h hb hsize hheap hu) (fun _ _ _ => .junk)

/-- A row grown: its value is a new one, all that spoke of it is forgotten. -/
theorem Rel.app (h : Rel X μ H w) (hb : getH H b = some (.row ty sz els)) (hsize : w.heap.size ≤ w'.heap.size) (hos : w'.os = w.os) (htape : TapeOK w w') (hout : w'.output = w.output)
    (hheap : ∀ k, k < w.heap.size → blkOf (μ b) ≠ some k → w'.heap[k]? = w.heap[k]?) (hu : ∀ k, blkOf u = some k → blkOf (μ b) = some k ∨ w.heap.size ≤ k)
    (hB : BRep (upd μ b u) (setH (subH b .junk H) b (some (.row ty sz els'))) w' (Fz X (upd μ b u) (setH (subH b .junk H) b (some (.row ty sz els'))) w') b (.row ty sz els')) :
    Rel X (upd μ b u) (setH (subH b .junk H) b (some (.row ty sz els'))) w' ∧ Keep b μ H w (upd μ b u) (setH (subH b .junk H) b (some (.row ty sz els'))) w' := by
  have hmv := app_fz (els' := els') h hb hsize hheap hu
  have hblt := getH_lt hb
  refine ⟨⟨fun k hk => Nat.lt_of_lt_of_le (h.xlt k hk) hsize, fun c B' k hc e => ?_, fun c c' B1 B2 k hc hc' e e' => ?_, fun c B' hc => ?_⟩, ⟨hsize, hos, htape, hout, fun k hk hn => hheap k hk (fun e => hn ⟨b, _, hb, e⟩), fun k hk hn => ?_, by rw [length_setH, subH_length]; omega, fun c B' hc h' => ?_⟩⟩
  · rcases app_get hb hc with ⟨rfl, _⟩ | ⟨hcb, hc'⟩
    · rw [upd_self] at e
      rcases hu k e with e' | hge
      · exact h.notX c _ k hb e'
      · intro hX; have := h.xlt k hX; omega
    · rw [upd_ne hcb] at e
      obtain ⟨B0, hB0, _⟩ := subB_kind _ _ hc'
      exact h.notX c B0 k hB0 e
  · rcases app_get hb hc with ⟨rfl, _⟩ | ⟨hcb, hc1⟩ <;> rcases app_get hb hc' with ⟨rfl, _⟩ | ⟨hcb', hc2⟩
    · rfl
    · rw [upd_self] at e
      rw [upd_ne hcb'] at e'
      obtain ⟨B0, hB0, _⟩ := subB_kind _ _ hc2
      rcases hu k e with e1 | hge
      · exact h.dis _ _ _ _ k hb hB0 e1 e'
      · have := h.lt hB0 e'; omega
    · rw [upd_ne hcb] at e
      rw [upd_self] at e'
      obtain ⟨B0, hB0, _⟩ := subB_kind _ _ hc1
      rcases hu k e' with e1 | hge
      · exact h.dis _ _ _ _ k hB0 hb e e1
      · have := h.lt hB0 e; omega
    · rw [upd_ne hcb] at e
      rw [upd_ne hcb'] at e'
      obtain ⟨B0, hB0, _⟩ := subB_kind _ _ hc1
      obtain ⟨B0', hB0', _⟩ := subB_kind _ _ hc2
      exact h.dis _ _ _ _ k hB0 hB0' e e'
  · rcases app_get hb hc with ⟨rfl, rfl⟩ | ⟨hcb, hc'⟩
    · exact hB
    · cases hB0 : getH H c with
      | none => rw [hB0] at hc'; simp [subB] at hc'
      | some B0 =>
        have hrep := h.blk c B0 hB0
        have hne : ∀ k, blkOf (μ c) = some k → w'.heap[k]? = w.heap[k]? := fun k hk => hheap k (h.lt hB0 hk) (fun e => hcb (h.dis c b _ _ k hB0 hb hk e))
        cases B0 with
        | var cty cells =>
          rw [hB0] at hc'
          simp [subB] at hc'
          subst hc'
          obtain ⟨g, cur, e, hg, hcs, hcell⟩ := hrep
          refine ⟨g, cur, by rw [upd_ne hcb]; exact e, (hne g (by rw [e]; rfl)).trans hg, by rw [subL_length]; exact hcs, fun i x hx => ?_⟩
          rw [subL_get] at hx
          obtain ⟨y, hy, rfl⟩ := Option.map_eq_some_iff.1 hx
          exact ⟨app_rep h hb hsize hheap hu (hcell i y hy).1, (hcell i y hy).2⟩
        | row cty csz cels =>
          rw [hB0] at hc'
          simp [subB] at hc'
          subst hc'
          obtain ⟨h1, h2, vals, ho, hv⟩ := hrep
          refine ⟨h1, h2, vals, ?_, fun i j x f hx hf => (hv i j x f hx hf).move hmv⟩
          rw [upd_ne hcb]
          exact ownsRow_move ho hne
        | obj o =>
          rw [hB0] at hc'
          simp [subB] at hc'
          subst hc'
          exact BRep.objMove hrep (upd_ne hcb) hne
  · rintro ⟨c, B', hc, e⟩
    rcases app_get hb hc with ⟨rfl, _⟩ | ⟨hcb, hc'⟩
    · rw [upd_self] at e
      rcases hu k e with e' | hge
      · exact hn ⟨c, _, hb, e'⟩
      · omega
    · rw [upd_ne hcb] at e
      obtain ⟨B0, hB0, _⟩ := subB_kind _ _ hc'
      exact hn ⟨c, B0, hB0, e⟩
  · rcases app_get hb h' with ⟨rfl, _⟩ | ⟨hcb, hc'⟩
    · omega
    · exact ⟨upd_ne hcb, subB_kind _ _ hc'⟩
end app

section store
variable {X : Nat → Prop} {μ : Nat → Value} {H : AHeap} {w w' : World} {b : Nat} {B B' : Blk}
theorem setb_get (hb : getH H b = some B) {c : Nat} {B1 : Blk} (h : getH (setH H b (some B')) c = some B1) : (c = b ∧ B1 = B') ∨ (c ≠ b ∧ getH H c = some B1) := by
  by_cases hc : c = b
  · subst hc
    rw [getH_setH_self (getH_lt hb)] at h
    exact .inl ⟨rfl, (Option.some.inj h).symm⟩
  · rw [getH_setH_ne hc] at h
    exact .inr ⟨hc, h⟩
theorem setb_old (hb : getH H b = some B) (hs : sameKind B B') : ∀ c B1, c < H.length → getH (setH H b (some B')) c = some B1 → μ c = μ c ∧ ∃ B, getH H c = some B ∧ sameKind B B1 := fun c B1 _ h => by
  rcases setb_get hb h with ⟨rfl, rfl⟩ | ⟨_, hc⟩
  · exact ⟨rfl, B, hb, hs⟩
  · exact ⟨rfl, B1, hc, sameKind.refl _⟩
theorem setb_fz (hb : getH H b = some B) (hs : sameKind B B') (hsize : w'.heap.size = w.heap.size) (hheap : ∀ k, blkOf (μ b) ≠ some k → w'.heap[k]? = w.heap[k]?) :
    ∀ k, Fz X μ H w k → Fz X μ (setH H b (some B')) w' k ∧ w'.heap[k]? = w.heap[k]? := fun k hk => by
  refine ⟨⟨by rw [hsize]; exact hk.1, hk.2.1, ?_⟩, hheap k (fun e => hk.2.2 ⟨b, B, hb, e⟩)⟩
  rintro ⟨c, B1, hc, e⟩
  rcases setb_get hb hc with ⟨rfl, _⟩ | ⟨_, hc'⟩
  · exact hk.2.2 ⟨c, B, hb, e⟩
  · exact hk.2.2 ⟨c, B1, hc', e⟩
theorem setb_rep (hb : getH H b = some B) (hs : sameKind B B') (hsize : w'.heap.size = w.heap.size) (hheap : ∀ k, blkOf (μ b) ≠ some k → w'.heap[k]? = w.heap[k]?) {x : AV} {v : Value}
    (hx : Rep μ H w (Fz X μ H w) x v) : Rep μ (setH H b (some B')) w' (Fz X μ (setH H b (some B')) w') x v :=
  hx.keep (by rw [length_setH]; exact Nat.le_refl _) (setb_old hb hs) (setb_fz hb hs hsize hheap)

/-- A store into an own block. -/
theorem Rel.setb (h : Rel X μ H w) (hb : getH H b = some B) (hs : sameKind B B') (hsize : w'.heap.size = w.heap.size) (hos : w'.os = w.os) (htape : TapeOK w w') (hout : w'.output = w.output)
    (hheap : ∀ k, blkOf (μ b) ≠ some k → w'.heap[k]? = w.heap[k]?) (hB : BRep μ (setH H b (some B')) w' (Fz X μ (setH H b (some B')) w') b B') :
    Rel X μ (setH H b (some B')) w' ∧ Keep H.length μ H w μ (setH H b (some B')) w' := by
  have hmv := setb_fz (X := X) hb hs hsize hheap
  have htk : ∀ k, Taken μ (setH H b (some B')) k → Taken μ H k := by
    rintro k ⟨c, B1, hc, e⟩
    rcases setb_get hb hc with ⟨rfl, _⟩ | ⟨_, hc'⟩
    · exact ⟨c, B, hb, e⟩
    · exact ⟨c, B1, hc', e⟩
  refine ⟨⟨fun k hk => by rw [hsize]; exact h.xlt k hk, fun c B1 k hc e => ?_, fun c c' B1 B2 k hc hc' e e' => ?_, fun c B1 hc => ?_⟩, ⟨by rw [hsize]; exact Nat.le_refl _, hos, htape, hout, fun k hk hn => hheap k (fun e => hn ⟨b, B, hb, e⟩), fun k hk hn ht => hn (htk k ht), by rw [length_setH]; exact Nat.le_refl _, setb_old hb hs⟩⟩
  · rcases setb_get hb hc with ⟨rfl, _⟩ | ⟨_, hc'⟩
    · exact h.notX _ _ k hb e
    · exact h.notX _ _ k hc' e
  · rcases setb_get hb hc with ⟨rfl, _⟩ | ⟨_, hc1⟩ <;> rcases setb_get hb hc' with ⟨rfl, _⟩ | ⟨_, hc2⟩
    · rfl
    · exact h.dis _ _ _ _ k hb hc2 e e'
    · exact h.dis _ _ _ _ k hc1 hb e e'
    · exact h.dis _ _ _ _ k hc1 hc2 e e'
  · rcases setb_get hb hc with ⟨rfl, rfl⟩ | ⟨hcb, hc'⟩
    · exact hB
    · have hrep := h.blk c B1 hc'
      have hne : ∀ k, blkOf (μ c) = some k → w'.heap[k]? = w.heap[k]? := fun k hk => hheap k (fun e => hcb (h.dis c b _ _ k hc' hb hk e))
      cases B1 with
      | var cty cells =>
        obtain ⟨g, cur, e, hg, hcs, hcell⟩ := hrep
        exact ⟨g, cur, e, (hne g (by rw [e]; rfl)).trans hg, hcs, fun i x hx => ⟨setb_rep hb hs hsize hheap (hcell i x hx).1, (hcell i x hx).2⟩⟩
      | row cty csz cels =>
        obtain ⟨h1, h2, vals, ho, hv⟩ := hrep
        exact ⟨h1, h2, vals, ownsRow_move ho hne, fun i j x f hx hf => (hv i j x f hx hf).move hmv⟩
      | obj o => exact BRep.objMove hrep rfl hne
end store

section drop
variable {X : Nat → Prop} {μ : Nat → Value} {H H' : AHeap} {w : World}
/-- Blocks left aside: H' knows some of H's blocks, none besides. -/
def Left (H' H : AHeap) : Prop := H'.length ≤ H.length ∧ ∀ b B, getH H' b = some B → getH H b = some B
/-- .. what is left aside is X's from now on. -/
def aside (X : Nat → Prop) (μ : Nat → Value) (H' H : AHeap) : Nat → Prop := fun k => X k ∨ (Taken μ H k ∧ ¬ Taken μ H' k)
theorem aside_fz (hl : Left H' H) (k : Nat) : Fz (aside X μ H' H) μ H' w k ↔ Fz X μ H w k := by
  unfold Fz aside
  constructor
  · rintro ⟨h1, h2, h3⟩
    refine ⟨h1, fun hX => h2 (.inl hX), fun ht => h2 (.inr ⟨ht, h3⟩)⟩
  · rintro ⟨h1, h2, h3⟩
    refine ⟨h1, ?_, ?_⟩
    · rintro (hX | ⟨ht, _⟩)
      · exact h2 hX
      · exact h3 ht
    · rintro ⟨b, B, hb, e⟩
      exact h3 ⟨b, B, hl.2 b B hb, e⟩
end drop

end Go.Proofs.Ai
