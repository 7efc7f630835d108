/- The abstract machine, 11: operations that make a block: rows frozen on the way, parts filled in. -/
import Derived.Test.YtfjjeijkbhcoaaaBiOps4
set_option linter.unusedVariables false
set_option linter.unusedSimpArgs false
namespace Go.Proofs.Ai
open Go

/-! ### filling -/
theorem fold_set (off : Nat) : ∀ (vs : List Value) (k : Nat) (cells : Array Value), off + k + vs.length ≤ cells.size →
    ((vs.zipIdx k).foldl (fun (cs : Array Value) (p : Value × Nat) => cs.setIfInBounds (off + p.2) p.1) cells).toList = cells.toList.take (off + k) ++ vs ++ cells.toList.drop (off + k + vs.length)
  | [], k, cells, h => by simp
  | v :: rest, k, cells, h => by
    simp only [List.zipIdx_cons, List.foldl_cons]
    have h' : off + k + (rest.length + 1) ≤ cells.size := by simpa using h
    rw [fold_set off rest (k + 1) _ (by simp; omega), Array.toList_setIfInBounds]
    have e := list_seg_step cells.toList (off + k) v rest (by simp; omega)
    simpa [Nat.add_assoc] using e

/-- One part laid. -/
def layAt (l : List Value) (off : Nat) (vs : List Value) : List Value := l.take off ++ vs ++ l.drop (off + vs.length)
theorem layAt_length {l : List Value} {off : Nat} {vs : List Value} (h : off + vs.length ≤ l.length) : (layAt l off vs).length = l.length := by
  simp [layAt]; omega
theorem fill_step (place : Nat → Option (Nat × Nat)) (cells : Array Value) (i : Nat) (v : Value) (rest : List (Nat × Value)) {off size : Nat} (hp : place i = some (off, size)) (hs : v.cells.size = size) (hf : off + size ≤ cells.size) :
    Instr.fill place cells ((i, v) :: rest) = Instr.fill place (layAt cells.toList off v.cells.toList).toArray rest := by
  have e : (v.cells.zipIdx.foldl (fun (cs : Array Value) (p : Value × Nat) => cs.setIfInBounds (off + p.2) p.1) cells) = (layAt cells.toList off v.cells.toList).toArray := by
    rw [← Array.foldl_toList, Array.toList_zipIdx]
    have := fold_set off v.cells.toList 0 cells (by simp; omega)
    apply Array.ext'
    rw [this]
    simp [layAt]
  have hc : ¬ (v.cells.size ≠ size ∨ off + v.cells.size > cells.size) := by omega
  simp only [Instr.fill, hp]
  rw [if_neg (by simp; omega)]
  rw [← e]

theorem putAt_eq {α : Type} : ∀ (l : List α) (n : Nat) (cs : List α), n ≤ l.length → putAt l n cs = l.take n ++ cs ++ l.drop (n + cs.length)
  | l, 0, cs, _ => by simp [putAt]
  | [], n + 1, cs, h => by simp at h
  | x :: r, n + 1, cs, h => by
    have ih := putAt_eq r n cs (by simpa using h)
    simp only [putAt, ih]
    simp [Nat.add_right_comm]

section
variable {X : Nat → Prop} {μ : Nat → Value} {H : AHeap} {w : World} {ok : Nat → Prop}

/-- Cells against values. -/
def RepL (μ : Nat → Value) (H : AHeap) (w : World) (ok : Nat → Prop) (l : List AV) (vs : List Value) : Prop :=
  vs.length = l.length ∧ (∀ (i : Nat) (x : AV), l[i]? = some x → Rep μ H w ok x (vs.getD i undef)) ∧ ∀ v ∈ vs, v.oneCell' = true

theorem RepL.of_cells {x : AV} {u : Value} (h : Rep μ H w ok x u) (h1 : ones (cellsA x) = true) : RepL μ H w ok (cellsA x) u.cells.toList := by
  obtain ⟨a, b, c⟩ := rep_cells h h1
  refine ⟨by simpa using a, fun i y hy => by rw [toList_getD]; exact b i y hy, fun v hv => ?_⟩
  obtain ⟨i, hi, rfl⟩ := List.getElem_of_mem hv
  have hi' : i < u.cells.size := by simpa using hi
  have := c i hi'
  simpa [Array.getD_eq_getD_getElem?, hi'] using this
theorem RepL.get {l : List AV} {vs : List Value} (h : RepL μ H w ok l vs) {i : Nat} {x : AV} (hx : l[i]? = some x) : ∃ v, vs[i]? = some v ∧ Rep μ H w ok x v ∧ v.oneCell' = true := by
  have hi : i < vs.length := by rw [h.1]; exact (List.getElem?_eq_some_iff.1 hx).1
  have hr := h.2.1 i x hx
  rw [List.getD_eq_getElem?_getD, List.getElem?_eq_getElem hi] at hr
  exact ⟨vs[i], List.getElem?_eq_getElem hi, hr, h.2.2 _ (List.getElem_mem hi)⟩
theorem RepL.mk {l : List AV} {vs : List Value} (hl : vs.length = l.length) (h : ∀ (i : Nat) (x : AV) (v : Value), l[i]? = some x → vs[i]? = some v → Rep μ H w ok x v ∧ v.oneCell' = true) : RepL μ H w ok l vs := by
  refine ⟨hl, fun i x hx => ?_, fun v hv => ?_⟩
  · have hi : i < vs.length := by rw [hl]; exact (List.getElem?_eq_some_iff.1 hx).1
    rw [List.getD_eq_getElem?_getD, List.getElem?_eq_getElem hi]
    exact (h i x vs[i] hx (List.getElem?_eq_getElem hi)).1
  · obtain ⟨i, hi, rfl⟩ := List.getElem_of_mem hv
    exact (h i (l[i]'(by omega)) vs[i] (List.getElem?_eq_getElem _) (List.getElem?_eq_getElem hi)).2
theorem RepL.lay {l cs : List AV} {vs us : List Value} (h : RepL μ H w ok l vs) (h' : RepL μ H w ok cs us) {off : Nat} (hf : off + cs.length ≤ l.length) : RepL μ H w ok (putAt l off cs) (layAt vs off us) := by
  have hl := h.1
  have hl' := h'.1
  rw [putAt_eq l off cs (by omega)]
  refine .mk (by simp [layAt]; omega) (fun i x v hx hv => ?_)
  have e1 : (l.take off).length = off := by simp; omega
  have e2 : (vs.take off).length = off := by simp; omega
  unfold layAt at hv
  rw [List.append_assoc] at hx hv
  rcases Nat.lt_or_ge i off with hi | hi
  · rw [List.getElem?_append_left (by omega), List.getElem?_take, if_pos hi] at hx hv
    obtain ⟨v', h1, h2⟩ := h.get hx
    rw [hv] at h1
    cases h1
    exact h2
  · rw [List.getElem?_append_right (by omega)] at hx hv
    rw [e1] at hx
    rw [e2] at hv
    rcases Nat.lt_or_ge (i - off) cs.length with hj | hj
    · rw [List.getElem?_append_left (by omega)] at hx hv
      obtain ⟨v', h1, h2⟩ := h'.get hx
      rw [hv] at h1
      cases h1
      exact h2
    · rw [List.getElem?_append_right (by omega)] at hx hv
      rw [List.getElem?_drop] at hx hv
      rw [hl'] at hv
      obtain ⟨v', h1, h2⟩ := h.get hx
      rw [hv] at h1
      cases h1
      exact h2

/-- Parts filled in, on both sides. -/
theorem fill_ok {ts : List AV} {a : Act} (hev : ∀ x, Rep μ H w ok (evalA ts x) (a.eval x)) (place : Nat → Option (Nat × Nat)) : ∀ (parts : List (Nat × Operand)) (cells cs : List AV) (vs : List Value), RepL μ H w ok cells vs →
    fillA place cells (parts.map fun p => (p.1, evalA ts p.2)) = some cs → ∃ us, Instr.fill place vs.toArray (parts.map fun p => (p.1, a.eval p.2)) = some us.toArray ∧ RepL μ H w ok cs us
  | [], cells, cs, vs, h, hf => by simp [fillA] at hf; subst hf; exact ⟨vs, rfl, h⟩
  | (i, x) :: rest, cells, cs, vs, h, hf => by
    simp only [List.map_cons, fillA] at hf
    split at hf
    · cases hf
    · rename_i off size hp
      split at hf
      · rename_i hc
        have hR := RepL.of_cells (hev x) hc.2.1
        have hs : (a.eval x).cells.size = size := by have := hR.1; simp at this; omega
        have hlay := h.lay hR (off := off) (by omega)
        obtain ⟨us, h1, h2⟩ := fill_ok hev place rest _ cs _ hlay hf
        refine ⟨us, ?_, h2⟩
        simp only [List.map_cons]
        rw [fill_step place vs.toArray i (a.eval x) _ hp hs (by have := h.1; simp; omega)]
        exact h1
      · cases hf

/-! ### many rows frozen -/
theorem kill1_spec (h : Rel X μ H w) (ts : List AV) (b : Nat) : let x := kill1 (ts, H) b
    Rel X μ x.2 w ∧ Keep H.length μ H w μ x.2 w ∧ (∀ t v, Rep μ H w (Fz X μ H w) (getT ts t) v → Rep μ x.2 w (Fz X μ x.2 w) (getT x.1 t) v) ∧ x.1.length = ts.length ∧ x.2.length = H.length ∧
      (∀ c B', getH x.2 c = some B' → ∃ B, getH H c = some B ∧ sameKind B B') ∧ (∀ ty sz els, getH H b = some (.row ty sz els) → getH x.2 b = none) ∧ (∀ k, Fz X μ H w k → Fz X μ x.2 w k) := by
  intro x
  have hx : x = kill1 (ts, H) b := rfl
  clear_value x
  unfold kill1 at hx
  simp only at hx
  split at hx
  · rename_i ty sz els hb
    obtain ⟨h1, h2, h3⟩ := h.kill hb
    subst hx
    refine ⟨h1, h2, fun t v hv => ?_, subL_length _ _ _, by simp [length_setH, subH_length], fun c B' hc => ?_, fun _ _ _ _ => ?_, fun k hk => ⟨hk.1, hk.2.1, h2.free k hk.1 hk.2.2⟩⟩
    · simp only [subL_getT]; exact h3 _ _ hv
    · exact (h2.old c B' (by have := getH_lt hc; simpa [length_setH, subH_length] using this) hc).2
    · exact getH_setH_self (by rw [subH_length]; exact getH_lt hb)
  · rename_i hn
    subst hx
    exact ⟨h, Keep.refl (Nat.le_refl _), fun t v hv => hv, rfl, rfl, fun c B' hc => ⟨B', hc, sameKind.refl _⟩, fun ty sz els hb => absurd hb (hn ty sz els), fun k hk => hk⟩

theorem killAll_spec : ∀ (ks : List Nat) {H : AHeap} {ts : List AV}, Rel X μ H w → let x := killAll (ts, H) ks
    Rel X μ x.2 w ∧ Keep H.length μ H w μ x.2 w ∧ (∀ t v, Rep μ H w (Fz X μ H w) (getT ts t) v → Rep μ x.2 w (Fz X μ x.2 w) (getT x.1 t) v) ∧ x.1.length = ts.length ∧ x.2.length = H.length ∧
      (∀ c B', getH x.2 c = some B' → ∃ B, getH H c = some B ∧ sameKind B B') ∧ (∀ b ∈ ks, ∀ ty sz els, getH H b = some (.row ty sz els) → getH x.2 b = none) ∧ (∀ k, Fz X μ H w k → Fz X μ x.2 w k)
  | [], H, ts, h => ⟨h, Keep.refl (Nat.le_refl _), fun t v hv => hv, rfl, rfl, fun c B' hc => ⟨B', hc, sameKind.refl _⟩, fun b hb => (by cases hb), fun k hk => hk⟩
  | b :: r, H, ts, h => by
    obtain ⟨h1, h2, h3, h4, h5, h6, h7, h8⟩ := kill1_spec h ts b
    generalize hy : kill1 (ts, H) b = y at *
    obtain ⟨ts1, H1⟩ := y
    simp only at h1 h2 h3 h4 h5 h6 h7 h8
    obtain ⟨g1, g2, g3, g4, g5, g6, g7, g8⟩ := killAll_spec r (ts := ts1) h1
    intro x
    have hx : x = killAll (ts1, H1) r := by show killAll (kill1 (ts, H) b) r = _; rw [hy]
    rw [← hx] at g1 g2 g3 g4 g5 g6 g7 g8
    refine ⟨g1, h2.trans (by rw [← h5]; exact g2), fun t v hv => g3 t v (h3 t v hv), g4.trans h4, g5.trans h5, fun c B' hc => ?_, fun c hc ty sz els hb => ?_, fun k hk => g8 k (h8 k hk)⟩
    · obtain ⟨B1, hB1, s1⟩ := g6 c B' hc
      obtain ⟨B0, hB0, s0⟩ := h6 c B1 hB1
      exact ⟨B0, hB0, s0.trans s1⟩
    · have dead : getH H1 c = none → getH x.2 c = none := fun hn => by
        cases h' : getH x.2 c with
        | none => rfl
        | some B' => obtain ⟨B1, hB1, _⟩ := g6 c B' h'; rw [hn] at hB1; cases hB1
      rcases List.mem_cons.1 hc with rfl | hc'
      · exact dead (h7 ty sz els hb)
      · cases h1c : getH H1 c with
        | none => exact dead h1c
        | some B1 =>
          obtain ⟨B0, hB0, s0⟩ := h6 c B1 h1c
          rw [hb] at hB0
          cases hB0
          cases B1 with
          | var => cases s0
          | obj => cases s0
          | row ty1 sz1 els1 => exact g7 c hc' _ _ _ h1c

/-- Cells as frozen data, once the rows among them have died. -/
theorem frozen_ok (h : Rel X μ H w) {H1 : AHeap} (hfz : ∀ k, Fz X μ H w k → Fz X μ H1 w k) (hsub : ∀ c B', getH H1 c = some B' → ∃ B, getH H c = some B ∧ sameKind B B') :
    ∀ {cs : List AV} {fs : List FV} {ks : List Nat} {vs : List Value}, frozenCells H cs = some (fs, ks) → (∀ b ∈ ks, getH H1 b = none) → RepL μ H w (Fz X μ H w) cs vs →
      fs.length = cs.length ∧ ∀ (j : Nat) (f : FV), fs[j]? = some f → RepF w (Fz X μ H1 w) f (vs.getD j undef)
  | [], fs, ks, vs, hf, _, _ => by simp [frozenCells] at hf; obtain ⟨rfl, rfl⟩ := hf; simp
  | x :: r, fs, ks, vs, hf, hk, hv => by
    have tail : ∀ {fs' : List FV} {ks' : List Nat}, frozenCells H r = some (fs', ks') → (∀ b ∈ ks', getH H1 b = none) → fs'.length = r.length ∧ ∀ (j : Nat) (f : FV), fs'[j]? = some f → RepF w (Fz X μ H1 w) f (vs.getD (j + 1) undef) := by
      intro fs' ks' hf' hk'
      cases vs with
      | nil => have := hv.1; simp at this
      | cons u vs =>
        have := frozen_ok h hfz hsub (vs := vs) hf' hk' ⟨by have := hv.1; simpa using this, fun i x hx => by have := hv.2.1 (i + 1) x (by simpa using hx); simpa using this, fun v hm => hv.2.2 v (List.mem_cons_of_mem _ hm)⟩
        simpa using this
    have head := hv.2.1 0 x rfl
    unfold frozenCells at hf
    split at hf
    · rename_i heq; cases heq
    · rename_i f r' heq
      simp only [List.cons.injEq] at heq
      obtain ⟨rfl, rfl⟩ := heq
      split at hf
      · rename_i fs' ks' hf'
        cases hf
        obtain ⟨t1, t2⟩ := tail hf' hk
        refine ⟨by simp [t1], fun j f' hj => ?_⟩
        cases j with
        | zero =>
          simp at hj
          subst hj
          cases head with
          | fz hF => exact hF.okIff hfz
          | dead hx => simp [refOf] at hx
        | succ j => exact t2 j f' (by simpa using hj)
      · cases hf
    · rename_i b r' heq
      simp only [List.cons.injEq] at heq
      obtain ⟨rfl, rfl⟩ := heq
      split at hf
      · rename_i ty sz els fs' ks' hb hf'
        cases hf
        obtain ⟨t1, t2⟩ := tail hf' (fun c hc => hk c (List.mem_cons_of_mem _ hc))
        refine ⟨by simp [t1], fun j f' hj => ?_⟩
        cases j with
        | zero =>
          simp at hj
          subst hj
          have hd := hk b List.mem_cons_self
          cases head with
          | own hb' he h1 =>
            rw [he]
            refine row_frozen (h.blk b _ hb) (fun k hk => ⟨hfz k hk, rfl⟩) (fun k hk => ⟨⟨h.lt hb hk, h.notX b _ k hb hk, ?_⟩, rfl⟩)
            rintro ⟨c, B', hc, e⟩
            obtain ⟨B0, hB0, _⟩ := hsub c B' hc
            have := h.dis c b _ _ k hB0 hb e hk
            subst this
            rw [hd] at hc
            cases hc
          | dead hx hlt hn _ => simp [refOf] at hx; subst hx; rw [hb] at hn; cases hn
        | succ j => exact t2 j f' (by simpa using hj)
      · cases hf
    · cases hf
end
end Go.Proofs.Ai
