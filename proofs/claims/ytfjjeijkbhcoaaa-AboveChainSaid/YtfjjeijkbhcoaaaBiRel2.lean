/- The abstract machine, 4: moves of a whole state: a new block, a row frozen, a row grown, a store. -/
import Derived.Test.YtfjjeijkbhcoaaaBiRel
set_option linter.unusedVariables false
namespace Go.Proofs.Ai
open Go

theorem subL_get (b : Nat) (r : AV) : ∀ (l : List AV) (i : Nat), (subL b r l)[i]? = (l[i]?).map (subA b r)
  | [], i => by simp [subL]
  | x :: l, 0 => by simp [subL]
  | x :: l, i + 1 => by simp [subL, subL_get b r l i]
theorem subL_length (b : Nat) (r : AV) : ∀ l : List AV, (subL b r l).length = l.length
  | [] => rfl
  | x :: l => by simp [subL, subL_length b r l]
theorem subH_get (b : Nat) (r : AV) : ∀ (H : AHeap) (c : Nat), getH (subH b r H) c = subB b r (getH H c)
  | [], c => by cases c <;> rfl
  | x :: l, 0 => rfl
  | x :: l, c + 1 => by simp only [subH, getH]; exact subH_get b r l c
theorem subH_length (b : Nat) (r : AV) : ∀ H : AHeap, (subH b r H).length = H.length
  | [] => rfl
  | x :: l => by simp [subH, subH_length b r l]
theorem subL_getT (b : Nat) (r : AV) : ∀ (l : List AV) (i : Nat), getT (subL b r l) i = subA b r (getT l i)
  | [], i => by simp [subL, getT, subA]
  | x :: l, 0 => rfl
  | x :: l, i + 1 => by simp only [subL, getT]; exact subL_getT b r l i
theorem subB_kind (b : Nat) (r : AV) {x : Option Blk} {B' : Blk} (h : subB b r x = some B') : ∃ B, x = some B ∧ sameKind B B' := by
  cases x with
  | none => simp [subB] at h
  | some B =>
    cases B with
    | var ty cells => simp [subB] at h; subst h; exact ⟨_, rfl, rfl, (subL_length b r cells).symm⟩
    | row ty sz els => simp [subB] at h; subst h; exact ⟨_, rfl, rfl, rfl, rfl⟩
    | obj o => simp [subB] at h; subst h; exact ⟨_, rfl, fun _ => rfl⟩

/-- A reading under a substitution of row b's value. -/
theorem Rep.sub {μ μ' : Nat → Value} {H H' : AHeap} {w w' : World} {ok ok' : Nat → Prop} {b : Nat} {r : AV} {B : Blk} (hb : getH H b = some B) (hrow : ∃ ty sz els, B = .row ty sz els) (hlen : H.length ≤ H'.length)
    (hold : ∀ c B', c ≠ b → c < H.length → getH H' c = some B' → μ' c = μ c ∧ ∃ B, getH H c = some B ∧ sameKind B B')
    (hk : ∀ k, ok k → ok' k ∧ w'.heap[k]? = w.heap[k]?) (hr : ∀ v, v = μ b → v.oneCell' = true → Rep μ' H' w' ok' r v) {x : AV} {v : Value} (h : Rep μ H w ok x v) : Rep μ' H' w' ok' (subA b r x) v := by
  have live : ∀ {c : Nat} {B : Blk}, c ≠ b → getH H c = some B → (getH H' c = none ∧ c < H'.length) ∨ ∃ B', getH H' c = some B' ∧ μ' c = μ c ∧ sameKind B B' := by
    intro c B hc hB
    have hlt := getH_lt hB
    cases h' : getH H' c with
    | none => exact .inl ⟨rfl, Nat.lt_of_lt_of_le hlt hlen⟩
    | some B' =>
      obtain ⟨e, B0, h0, s⟩ := hold c B' hc hlt h'
      rw [hB] at h0
      cases h0
      exact .inr ⟨B', rfl, e, s⟩
  obtain ⟨bty, bsz, bels, rfl⟩ := hrow
  induction h with
  | fz h => simp only [subA]; exact .fz (h.move hk)
  | agg hl _ h1 ih =>
    simp only [subA]
    refine .agg (by rw [subL_length]; exact hl) (fun i x hx => ?_) h1
    rw [subL_get] at hx
    obtain ⟨y, hy, rfl⟩ := Option.map_eq_some_iff.1 hx
    exact ih i y hy
  | @own c ty sz els v h hv h1 =>
    simp only [subA]
    by_cases hc : c = b
    · subst hc; rw [if_pos rfl]; exact hr _ hv h1
    · rw [if_neg hc]
      rcases live hc h with ⟨hn, hb'⟩ | ⟨B', hB', e, s⟩
      · exact .dead rfl hb' hn h1
      · cases B' with
        | var => cases s
        | obj => cases s
        | row => exact .own hB' (hv.trans e.symm) h1
  | @ob c o v h hv h1 =>
    simp only [subA]
    have hc : c ≠ b := by rintro rfl; rw [hb] at h; cases h
    rcases live hc h with ⟨hn, hb'⟩ | ⟨B', hB', e, s⟩
    · exact .dead rfl hb' hn h1
    · cases B' with
      | row => cases s
      | var => cases s
      | obj => exact .ob hB' (hv.trans e.symm) h1
  | @vw c o m ty sz els A cc h hm hcc hA =>
    simp only [subA]
    by_cases hc : c = b
    · rw [if_pos hc]; exact .junk
    · rw [if_neg hc]
      rcases live hc h with ⟨hn, hb'⟩ | ⟨B', hB', e, s⟩
      · exact .dead rfl hb' hn rfl
      · cases B' with
        | var => cases s
        | obj => cases s
        | row ty sz els =>
          obtain ⟨rfl, rfl, hl⟩ := s
          exact .vw hB' (hl ▸ hm) hcc (fun h0 => by rw [e]; exact hA h0)
  | @ptr c o ty cells g h hg =>
    simp only [subA]
    have hc : c ≠ b := by rintro rfl; rw [hb] at h; cases h
    rcases live hc h with ⟨hn, hb'⟩ | ⟨B', hB', e, s⟩
    · exact .dead rfl hb' hn rfl
    · cases B' with
      | row => cases s
      | obj => cases s
      | var ty cells => exact .ptr hB' (by rw [e]; exact hg)
  | @ep c i j ty sz els g h hi hg =>
    simp only [subA]
    by_cases hc : c = b
    · rw [if_pos hc]; exact .junk
    · rw [if_neg hc]
      rcases live hc h with ⟨hn, hb'⟩ | ⟨B', hB', e, s⟩
      · exact .dead rfl hb' hn rfl
      · cases B' with
        | var => cases s
        | obj => cases s
        | row ty sz els =>
          obtain ⟨rfl, rfl, hl⟩ := s
          exact .ep hB' (hl ▸ hi) (by rw [e]; exact hg)
  | fp U hok hcell hrep =>
    simp only [subA]
    refine .fp U (hk _ hok).1 (fun j f hf => ?_) (fun j f hf => (hrep j f hf).move hk)
    rw [← hcell j f hf]
    refine World.cell?_of_block ?_
    rw [show (Addr.add _ j).block = _ from by unfold Addr.add; split <;> rfl]
    exact (hk _ hok).2
  | ifc _ ih => simp only [subA]; exact .ifc ih
  | fn ha hc _ _ ih ih' =>
    simp only [subA]
    refine .fn (by rw [subL_length]; exact ha) (by rw [subL_length]; exact hc) (fun i x hx => ?_) (fun i x hx => ?_)
    · rw [subL_get] at hx
      obtain ⟨y, hy, rfl⟩ := Option.map_eq_some_iff.1 hx
      exact ih i y hy
    · rw [subL_get] at hx
      obtain ⟨y, hy, rfl⟩ := Option.map_eq_some_iff.1 hx
      exact ih' i y hy
  | tup hl _ ih =>
    simp only [subA]
    refine .tup (by rw [subL_length]; exact hl) (fun i x hx => ?_)
    rw [subL_get] at hx
    obtain ⟨y, hy, rfl⟩ := Option.map_eq_some_iff.1 hx
    exact ih i y hy
  | @dead x v c hx hc h h1 =>
    have hcb : c ≠ b := by rintro rfl; rw [hb] at h; cases h
    have hd : getH H' c = none := by
      cases h' : getH H' c with
      | none => rfl
      | some B' =>
        obtain ⟨_, B0, h0, _⟩ := hold c B' hcb hc h'
        rw [h] at h0
        cases h0
    have hx' : subA b r x = x := by
      cases x <;> simp [refOf] at hx <;> subst hx <;> simp [subA, hcb]
    rw [hx']
    exact .dead hx (Nat.lt_of_lt_of_le hc hlen) hd h1
  | junk => simp only [subA]; exact .junk

/-! ### the places of blocks -/
theorem BRep.lt {μ : Nat → Value} {H : AHeap} {w : World} {ok : Nat → Prop} {b : Nat} {B : Blk} (h : BRep μ H w ok b B) {k : Nat} (hk : blkOf (μ b) = some k) : k < w.heap.size := by
  cases B with
  | var ty cells =>
    obtain ⟨g, cur, e, hg, _⟩ := h
    rw [e] at hk
    simp [blkOf] at hk
    subst hk
    exact (Array.getElem?_eq_some_iff.1 hg).1
  | row ty sz els =>
    obtain ⟨_, _, vals, ho, _⟩ := h
    rcases ho.2 with ⟨e, _⟩ | ⟨g, cap, cur, e, _, hg, _⟩
    · rw [e] at hk; simp [blkOf] at hk
    · rw [e] at hk
      simp [blkOf] at hk
      subst hk
      exact (Array.getElem?_eq_some_iff.1 hg).1
  | obj o =>
    obtain ⟨g, e, hg⟩ := h
    have : g = k := by rw [e, blkOf_objV] at hk; exact Option.some.inj hk
    subst this
    exact (Array.getElem?_eq_some_iff.1 hg).1
theorem BRep.one {μ : Nat → Value} {H : AHeap} {w : World} {ok : Nat → Prop} {b : Nat} {B : Blk} (h : BRep μ H w ok b B) : (μ b).oneCell' = true := by
  cases B with
  | var ty cells => obtain ⟨g, cur, e, _⟩ := h; rw [e]; rfl
  | row ty sz els =>
    obtain ⟨_, _, vals, ho, _⟩ := h
    rcases ho.2 with ⟨e, _⟩ | ⟨g, cap, cur, e, _⟩ <;> rw [e] <;> rfl
  | obj o => obtain ⟨g, e, _⟩ := h; rw [e]; exact one_objV o g
theorem BRep.objMove {μ μ' : Nat → Value} {H H' : AHeap} {w w' : World} {ok ok' : Nat → Prop} {b b' : Nat} {o : Obj} (h : BRep μ H w ok b (.obj o)) (hu : μ' b' = μ b) (hh : ∀ k, blkOf (μ b) = some k → w'.heap[k]? = w.heap[k]?) : BRep μ' H' w' ok' b' (.obj o) := by
  obtain ⟨g, e, hg⟩ := h
  exact ⟨g, by rw [hu]; exact e, (hh g (by rw [e]; exact blkOf_objV o g)).trans hg⟩
theorem Rel.lt {X : Nat → Prop} {μ : Nat → Value} {H : AHeap} {w : World} (h : Rel X μ H w) {b : Nat} {B : Blk} (hb : getH H b = some B) {k : Nat} (hk : blkOf (μ b) = some k) : k < w.heap.size := (h.blk b B hb).lt hk
theorem Rel.taken_lt {X : Nat → Prop} {μ : Nat → Value} {H : AHeap} {w : World} (h : Rel X μ H w) {k : Nat} (hk : Taken μ H k) : k < w.heap.size := by
  obtain ⟨b, B, hb, e⟩ := hk
  exact h.lt hb e

/-- The reading of the rows of a block. -/
theorem ownsRow_move {w w1 : World} {base : Nat} {e : TypeId} {size n : Nat} {v : Value} {xs : List Value} (h : w.ownsRow base e size v n xs) (hm : ∀ k, blkOf v = some k → w1.heap[k]? = w.heap[k]?) : w1.ownsRow base e size v n xs := by
  obtain ⟨h1, h2⟩ := h
  refine ⟨h1, ?_⟩
  rcases h2 with h2 | ⟨g, cap, cur, rfl, hg, hh, r⟩
  · exact .inl h2
  · exact .inr ⟨g, cap, cur, rfl, hg, (hm g (by simp [blkOf])).trans hh, r⟩

/-- An own row, read as frozen data. -/
theorem row_frozen {μ : Nat → Value} {H : AHeap} {w w' : World} {ok ok' : Nat → Prop} {b : Nat} {ty sz : Nat} {els : List (List FV)} (h : BRep μ H w ok b (.row ty sz els)) (hk : ∀ k, ok k → ok' k ∧ w'.heap[k]? = w.heap[k]?)
    (hb : ∀ k, blkOf (μ b) = some k → ok' k ∧ w'.heap[k]? = w.heap[k]?) : RepF w' ok' (.sl sz els) (μ b) := by
  obtain ⟨hsz, hels, vals, ho, hv⟩ := h
  have ho' := ownsRow_move ho (fun k hk' => (hb k hk').2)
  rcases ho.2 with ⟨e, hn⟩ | ⟨g, cap, cur, e, _, hg, hnc, _, _, _⟩
  · rw [e]
    obtain rfl : els = [] := List.eq_nil_of_length_eq_zero hn
    exact .nil
  · rw [e] at ho' hb ⊢
    refine .sl (fun i j => vals.getD (i * sz + j) undef) hnc (hb g (by simp [blkOf])).1 hels (fun i j x f hx hf => ?_) (fun i j x f hx hf => (hv i j x f hx hf).move hk)
    refine ho'.cells (g := g) rfl (i * sz + j) _ ?_
    have hlt : i * sz + j < vals.length := by
      have hl := ho.1
      have hi : i < els.length := (List.getElem?_eq_some_iff.1 hx).1
      have hj : j < sz := by rw [← hels i x hx]; exact (List.getElem?_eq_some_iff.1 hf).1
      rw [hl]
      have : (i + 1) * sz ≤ els.length * sz := Nat.mul_le_mul_right _ hi
      rw [Nat.add_mul] at this
      omega
    simp [List.getD_eq_getElem?_getD, List.getElem?_eq_getElem hlt]

/-! ### a row is frozen -/
theorem Rel.kill {X : Nat → Prop} {μ : Nat → Value} {H : AHeap} {w : World} (h : Rel X μ H w) {b : Nat} {ty sz : Nat} {els : List (List FV)} (hb : getH H b = some (.row ty sz els)) :
    Rel X μ (setH (subH b (.fz (.sl sz els)) H) b none) w ∧ Keep H.length μ H w μ (setH (subH b (.fz (.sl sz els)) H) b none) w ∧
    ∀ x v, Rep μ H w (Fz X μ H w) x v → Rep μ (setH (subH b (.fz (.sl sz els)) H) b none) w (Fz X μ (setH (subH b (.fz (.sl sz els)) H) b none) w) (subA b (.fz (.sl sz els)) x) v := by
  have hblt := getH_lt hb
  have hself : getH (setH (subH b (.fz (.sl sz els)) H) b none) b = none := getH_setH_self (by rw [subH_length]; exact hblt)
  have hne : ∀ c, c ≠ b → getH (setH (subH b (.fz (.sl sz els)) H) b none) c = subB b (.fz (.sl sz els)) (getH H c) := fun c hc => by rw [getH_setH_ne hc, subH_get]
  have hlen : (setH (subH b (.fz (.sl sz els)) H) b none).length = H.length := by rw [length_setH, subH_length]
  generalize hH' : setH (subH b (.fz (.sl sz els)) H) b none = H' at *
  have hold : ∀ c B', c ≠ b → c < H.length → getH H' c = some B' → μ c = μ c ∧ ∃ B, getH H c = some B ∧ sameKind B B' := fun c B' hc _ h' => by
    rw [hne c hc] at h'
    exact ⟨rfl, subB_kind _ _ h'⟩
  have hold' : ∀ c B', c < H.length → getH H' c = some B' → μ c = μ c ∧ ∃ B, getH H c = some B ∧ sameKind B B' := fun c B' hlt h' => by
    by_cases hc : c = b
    · subst hc; rw [hself] at h'; cases h'
    · exact hold c B' hc hlt h'
  have htk : ∀ k, Taken μ H' k → Taken μ H k := by
    rintro k ⟨c, B', hc, e⟩
    obtain ⟨_, B, hB, _⟩ := hold' c B' (by rw [← hlen]; exact getH_lt hc) hc
    exact ⟨c, B, hB, e⟩
  have hfz : ∀ k, Fz X μ H w k → Fz X μ H' w k := fun k hk => ⟨hk.1, hk.2.1, fun ht => hk.2.2 (htk k ht)⟩
  have hmv : ∀ k, Fz X μ H w k → Fz X μ H' w k ∧ w.heap[k]? = w.heap[k]? := fun k hk => ⟨hfz k hk, rfl⟩
  have hbok : ∀ k, blkOf (μ b) = some k → Fz X μ H' w k ∧ w.heap[k]? = w.heap[k]? := fun k hk => by
    refine ⟨⟨h.lt hb hk, h.notX b _ k hb hk, ?_⟩, rfl⟩
    rintro ⟨c, B', hc, e⟩
    have hcb : c ≠ b := by rintro rfl; rw [hself] at hc; cases hc
    obtain ⟨_, B, hB, _⟩ := hold c B' hcb (by rw [← hlen]; exact getH_lt hc) hc
    exact hcb (h.dis c b B _ k hB hb e hk)
  have hr : ∀ v, v = μ b → v.oneCell' = true → Rep μ H' w (Fz X μ H' w) (.fz (.sl sz els)) v := fun v hv _ => by
    rw [hv]
    exact .fz (row_frozen (h.blk b _ hb) hmv hbok)
  have hsub : ∀ x v, Rep μ H w (Fz X μ H w) x v → Rep μ H' w (Fz X μ H' w) (subA b (.fz (.sl sz els)) x) v := fun x v hx =>
    hx.sub hb ⟨_, _, _, rfl⟩ (by rw [hlen]; exact Nat.le_refl _) hold hmv hr
  refine ⟨⟨h.xlt, fun c B' k hc e => ?_, fun c c' B B' k hc hc' e e' => ?_, fun c B' hc => ?_⟩, ⟨Nat.le_refl _, rfl, TapeOK.refl _, rfl, fun _ _ _ => rfl, fun k _ hn ht => hn (htk k ht), by rw [hlen]; exact Nat.le_refl _, hold'⟩, hsub⟩
  · obtain ⟨_, B, hB, _⟩ := hold' c B' (by rw [← hlen]; exact getH_lt hc) hc
    exact h.notX c B k hB e
  · obtain ⟨_, B0, hB, _⟩ := hold' c B (by rw [← hlen]; exact getH_lt hc) hc
    obtain ⟨_, B0', hB', _⟩ := hold' c' B' (by rw [← hlen]; exact getH_lt hc') hc'
    exact h.dis c c' _ _ k hB hB' e e'
  · have hcb : c ≠ b := by rintro rfl; rw [hself] at hc; cases hc
    rw [hne c hcb] at hc
    cases hB : getH H c with
    | none => rw [hB] at hc; simp [subB] at hc
    | some B0 =>
      have hrep := h.blk c B0 hB
      cases B0 with
      | var cty cells =>
        rw [hB] at hc
        simp [subB] at hc
        subst hc
        obtain ⟨g, cur, e, hg, hcs, hcell⟩ := hrep
        refine ⟨g, cur, e, hg, by rw [subL_length]; exact hcs, fun i x hx => ?_⟩
        rw [subL_get] at hx
        obtain ⟨y, hy, rfl⟩ := Option.map_eq_some_iff.1 hx
        exact ⟨hsub y _ (hcell i y hy).1, (hcell i y hy).2⟩
      | row cty csz cels =>
        rw [hB] at hc
        simp [subB] at hc
        subst hc
        obtain ⟨h1, h2, vals, ho, hv⟩ := hrep
        exact ⟨h1, h2, vals, ho, fun i j x f hx hf => (hv i j x f hx hf).move hmv⟩
      | obj o =>
        rw [hB] at hc
        simp [subB] at hc
        subst hc
        exact BRep.objMove hrep rfl (fun _ _ => rfl)

end Go.Proofs.Ai
