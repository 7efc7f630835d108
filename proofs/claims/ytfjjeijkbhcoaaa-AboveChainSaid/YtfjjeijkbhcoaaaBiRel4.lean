/- The abstract machine, 6: a world that only grew; blocks left aside and taken up again; a place filled. -/
import Derived.Test.YtfjjeijkbhcoaaaBiRel3
set_option linter.unusedVariables false
namespace Go.Proofs.Ai
open Go

/-- Nothing that was there has turned. -/
structure Ext (w w' : World) : Prop where
  size : w.heap.size ≤ w'.heap.size
  os : w'.os = w.os
  tape : TapeOK w w'
  output : w'.output = w.output
  heap : ∀ k, k < w.heap.size → w'.heap[k]? = w.heap[k]?
theorem Ext.refl (w : World) : Ext w w := ⟨Nat.le_refl _, rfl, TapeOK.refl w, rfl, fun _ _ => rfl⟩
theorem Ext.trans {a b c : World} (h : Ext a b) (k : Ext b c) : Ext a c :=
  ⟨Nat.le_trans h.size k.size, k.os.trans h.os, k.tape.trans h.tape, k.output.trans h.output, fun i hi => (k.heap i (Nat.lt_of_lt_of_le hi h.size)).trans (h.heap i hi)⟩
theorem Ext.drew (w : World) : Ext w { w with drawn := w.drawn + 1 } := ⟨Nat.le_refl _, rfl, ⟨rfl, Nat.le_succ _⟩, rfl, fun _ _ => rfl⟩

section world
variable {X : Nat → Prop} {μ : Nat → Value} {H : AHeap} {w w' : World}
theorem Fz.ext (e : Ext w w') : ∀ k, Fz X μ H w k → Fz X μ H w' k ∧ w'.heap[k]? = w.heap[k]? := fun k hk => ⟨⟨Nat.lt_of_lt_of_le hk.1 e.size, hk.2⟩, e.heap k hk.1⟩
theorem Rep.ext (e : Ext w w') {x : AV} {v : Value} (h : Rep μ H w (Fz X μ H w) x v) : Rep μ H w' (Fz X μ H w') x v :=
  h.keep (Nat.le_refl _) (fun b B' _ hb => ⟨rfl, B', hb, sameKind.refl _⟩) (Fz.ext e)
theorem Rel.ext (h : Rel X μ H w) (e : Ext w w') : Rel X μ H w' := by
  refine ⟨fun k hk => Nat.lt_of_lt_of_le (h.xlt k hk) e.size, h.notX, h.dis, fun b B hb => ?_⟩
  have hrep := h.blk b B hb
  cases B with
  | var ty cells =>
    obtain ⟨g, cur, e1, hg, hcs, hcell⟩ := hrep
    exact ⟨g, cur, e1, (e.heap g (Array.getElem?_eq_some_iff.1 hg).1).trans hg, hcs, fun i x hx => ⟨(hcell i x hx).1.ext e, (hcell i x hx).2⟩⟩
  | row ty sz els =>
    obtain ⟨h1, h2, vals, ho, hv⟩ := hrep
    exact ⟨h1, h2, vals, ownsRow_move ho (fun k hk => e.heap k (h.lt hb hk)), fun i j x f hx hf => (hv i j x f hx hf).move (Fz.ext e)⟩
  | obj o => exact BRep.objMove hrep rfl (fun k hk => e.heap k (h.lt hb hk))
theorem Keep.ext (e : Ext w w') {N : Nat} (hN : N ≤ H.length) : Keep N μ H w μ H w' :=
  ⟨e.size, e.os, e.tape, e.output, fun k hk _ => e.heap k hk, fun _ _ h => h, hN, fun b B' _ hb => ⟨rfl, B', hb, sameKind.refl _⟩⟩
end world

theorem refsInL_iff (p : Nat → Bool) : ∀ {l : List AV}, refsInL p l = true ↔ ∀ (i : Nat) (x : AV), l[i]? = some x → refsIn p x = true
  | [] => by simp [refsInL]
  | x :: l => by
    simp only [refsInL, Bool.and_eq_true, refsInL_iff p (l := l)]
    constructor
    · rintro ⟨h, h'⟩ i y hy
      cases i with
      | zero => simp at hy; subst hy; exact h
      | succ i => exact h' i y (by simpa using hy)
    · intro h
      exact ⟨h 0 x rfl, fun i y hy => h (i + 1) y (by simpa using hy)⟩

section refs
variable {μ : Nat → Value} {H H' : AHeap} {w : World} {ok : Nat → Prop}
/-- What a reading speaks of is there. -/
theorem Rep.refs {x : AV} {v : Value} (h : Rep μ H w ok x v) : refsIn (fun c => decide (c < H.length)) x = true := by
  induction h with
  | fz => rfl
  | agg _ _ _ ih => simp only [refsIn]; exact (refsInL_iff _).2 ih
  | own h => simp only [refsIn, decide_eq_true_eq]; exact getH_lt h
  | ob h => simp only [refsIn, decide_eq_true_eq]; exact getH_lt h
  | vw h => simp only [refsIn, decide_eq_true_eq]; exact getH_lt h
  | ptr h => simp only [refsIn, decide_eq_true_eq]; exact getH_lt h
  | ep h => simp only [refsIn, decide_eq_true_eq]; exact getH_lt h
  | fp => rfl
  | ifc _ ih => simp only [refsIn]; exact ih
  | fn _ _ _ _ ih ih' => simp only [refsIn, Bool.and_eq_true]; exact ⟨(refsInL_iff _).2 ih, (refsInL_iff _).2 ih'⟩
  | tup _ _ ih => simp only [refsIn]; exact (refsInL_iff _).2 ih
  | dead hx hb => rename_i x _ _ _ _; cases x <;> simp [refOf] at hx <;> subst hx <;> simpa [refsIn] using hb
  | junk => rfl

mutual
theorem refsIn_mono {p q : Nat → Bool} (h : ∀ c, p c = true → q c = true) : ∀ x : AV, refsIn p x = true → refsIn q x = true
  | .fz _, _ => rfl
  | .fp _, _ => rfl
  | .junk, _ => rfl
  | .agg l, hx => by simp only [refsIn] at hx ⊢; exact refsInL_mono h l hx
  | .tup l, hx => by simp only [refsIn] at hx ⊢; exact refsInL_mono h l hx
  | .own b, hx => by simp only [refsIn] at hx ⊢; exact h b hx
  | .ob b, hx => by simp only [refsIn] at hx ⊢; exact h b hx
  | .vw b _ _, hx => by simp only [refsIn] at hx ⊢; exact h b hx
  | .ptr b _, hx => by simp only [refsIn] at hx ⊢; exact h b hx
  | .ep b _ _, hx => by simp only [refsIn] at hx ⊢; exact h b hx
  | .ifc _ x, hx => by simp only [refsIn] at hx ⊢; exact refsIn_mono h x hx
  | .fn _ a c, hx => by
    simp only [refsIn, Bool.and_eq_true] at hx ⊢
    exact ⟨refsInL_mono h a hx.1, refsInL_mono h c hx.2⟩
theorem refsInL_mono {p q : Nat → Bool} (h : ∀ c, p c = true → q c = true) : ∀ l : List AV, refsInL p l = true → refsInL q l = true
  | [], _ => rfl
  | x :: l, hx => by
    simp only [refsInL, Bool.and_eq_true] at hx ⊢
    exact ⟨refsIn_mono h x hx.1, refsInL_mono h l hx.2⟩
end

/-- Blocks left aside: what spoke of them is dead. -/
theorem Rep.drop (hl : Left H' H) (h1 : ∀ b B, getH H b = some B → (μ b).oneCell' = true) {x : AV} {v : Value} (h : Rep μ H w ok x v) (hr : refsIn (fun c => decide (c < H'.length)) x = true) : Rep μ H' w ok x v := by
  have live : ∀ {c : Nat} {B : Blk}, getH H c = some B → getH H' c = none ∨ getH H' c = some B := by
    intro c B hB
    cases h' : getH H' c with
    | none => exact .inl rfl
    | some B' => have := hl.2 c B' h'; rw [hB] at this; exact .inr this.symm
  induction h with
  | fz h => exact .fz h
  | agg hl' _ h1' ih =>
    simp only [refsIn] at hr
    exact .agg hl' (fun i x hx => ih i x hx ((refsInL_iff _).1 hr i x hx)) h1'
  | own h hv h1' =>
    simp only [refsIn, decide_eq_true_eq] at hr
    rcases live h with hn | hs
    · exact .dead rfl hr hn h1'
    · exact .own hs hv h1'
  | ob h hv h1' =>
    simp only [refsIn, decide_eq_true_eq] at hr
    rcases live h with hn | hs
    · exact .dead rfl hr hn h1'
    · exact .ob hs hv h1'
  | vw h hm hc hA =>
    simp only [refsIn, decide_eq_true_eq] at hr
    rcases live h with hn | hs
    · exact .dead rfl hr hn rfl
    · exact .vw hs hm hc hA
  | ptr h hg =>
    simp only [refsIn, decide_eq_true_eq] at hr
    rcases live h with hn | hs
    · exact .dead rfl hr hn rfl
    · exact .ptr hs hg
  | ep h hi hg =>
    simp only [refsIn, decide_eq_true_eq] at hr
    rcases live h with hn | hs
    · exact .dead rfl hr hn rfl
    · exact .ep hs hi hg
  | fp U hok hcell hrep => exact .fp U hok hcell hrep
  | ifc _ ih => exact .ifc (ih (by simpa only [refsIn] using hr))
  | fn ha hc _ _ ih ih' =>
    simp only [refsIn, Bool.and_eq_true] at hr
    exact .fn ha hc (fun i x hx => ih i x hx ((refsInL_iff _).1 hr.1 i x hx)) (fun i x hx => ih' i x hx ((refsInL_iff _).1 hr.2 i x hx))
  | tup hl' _ ih =>
    simp only [refsIn] at hr
    exact .tup hl' (fun i x hx => ih i x hx ((refsInL_iff _).1 hr i x hx))
  | dead hx hb h h1 =>
    rename_i x _ c
    have hc : c < H'.length := by cases x <;> simp [refOf] at hx <;> subst hx <;> simpa [refsIn] using hr
    refine .dead hx hc ?_ h1
    cases h' : getH H' c with
    | none => rfl
    | some B' => have := hl.2 c B' h'; rw [h] at this; cases this
  | junk => exact .junk

/-- .. and taken up again, where all that a value speaks of was there all along. -/
theorem Rep.lift (hl : Left H' H) {x : AV} {v : Value} (h : Rep μ H' w ok x v) (hr : refsIn (liveIn H') x = true) : Rep μ H w ok x v := by
  induction h with
  | fz h => exact .fz h
  | agg hl' _ h1' ih =>
    simp only [refsIn] at hr
    exact .agg hl' (fun i x hx => ih i x hx ((refsInL_iff _).1 hr i x hx)) h1'
  | own h hv h1' => exact .own (hl.2 _ _ h) hv h1'
  | ob h hv h1' => exact .ob (hl.2 _ _ h) hv h1'
  | vw h hm hc hA => exact .vw (hl.2 _ _ h) hm hc hA
  | ptr h hg => exact .ptr (hl.2 _ _ h) hg
  | ep h hi hg => exact .ep (hl.2 _ _ h) hi hg
  | fp U hok hcell hrep => exact .fp U hok hcell hrep
  | ifc _ ih => exact .ifc (ih (by simpa only [refsIn] using hr))
  | fn ha hc _ _ ih ih' =>
    simp only [refsIn, Bool.and_eq_true] at hr
    exact .fn ha hc (fun i x hx => ih i x hx ((refsInL_iff _).1 hr.1 i x hx)) (fun i x hx => ih' i x hx ((refsInL_iff _).1 hr.2 i x hx))
  | tup hl' _ ih =>
    simp only [refsIn] at hr
    exact .tup hl' (fun i x hx => ih i x hx ((refsInL_iff _).1 hr i x hx))
  | dead hx hb h h1 =>
    rename_i x _ c
    have : liveIn H' c = true := by cases x <;> simp [refOf] at hx <;> subst hx <;> simpa [refsIn] using hr
    simp [liveIn, h] at this
  | junk => exact .junk
end refs

theorem Rep.okIff {μ : Nat → Value} {H : AHeap} {w : World} {ok ok' : Nat → Prop} (h : ∀ k, ok k → ok' k) {x : AV} {v : Value} (hx : Rep μ H w ok x v) : Rep μ H w ok' x v :=
  hx.keep (Nat.le_refl _) (fun b B' _ hb => ⟨rfl, B', hb, sameKind.refl _⟩) (fun k hk => ⟨h k hk, rfl⟩)
theorem RepF.okIff {w : World} {ok ok' : Nat → Prop} (h : ∀ k, ok k → ok' k) {x : FV} {v : Value} (hx : RepF w ok x v) : RepF w ok' x v := hx.move (fun k hk => ⟨h k hk, rfl⟩)

/-- A state with blocks left aside. -/
theorem Rel.drop {X : Nat → Prop} {μ : Nat → Value} {H H' : AHeap} {w : World} (h : Rel X μ H w) (hl : Left H' H)
    (hc : ∀ b ty cells, getH H' b = some (.var ty cells) → refsInL (fun c => decide (c < H'.length)) cells = true) : Rel (aside X μ H' H) μ H' w := by
  have h1 : ∀ b B, getH H b = some B → (μ b).oneCell' = true := fun b B hb => (h.blk b B hb).one
  have hok : ∀ k, Fz X μ H w k → Fz (aside X μ H' H) μ H' w k := fun k hk => (aside_fz hl k).2 hk
  refine ⟨?_, fun b B k hb e => ?_, fun b b' B B' k hb hb' e e' => h.dis b b' B B' k (hl.2 b B hb) (hl.2 b' B' hb') e e', fun b B hb => ?_⟩
  · rintro k (hX | ⟨ht, _⟩)
    · exact h.xlt k hX
    · exact h.taken_lt ht
  · rintro (hX | ⟨_, hn⟩)
    · exact h.notX b B k (hl.2 b B hb) e hX
    · exact hn ⟨b, B, hb, e⟩
  · have hrep := h.blk b B (hl.2 b B hb)
    cases B with
    | var ty cells =>
      obtain ⟨g, cur, e, hg, hcs, hcell⟩ := hrep
      refine ⟨g, cur, e, hg, hcs, fun i x hx => ⟨?_, (hcell i x hx).2⟩⟩
      exact ((hcell i x hx).1.drop hl h1 ((refsInL_iff _).1 (hc b ty cells hb) i x hx)).okIff hok
    | row ty sz els =>
      obtain ⟨h2, h3, vals, ho, hv⟩ := hrep
      exact ⟨h2, h3, vals, ho, fun i j x f hx hf => (hv i j x f hx hf).okIff hok⟩
    | obj o => exact BRep.objMove hrep rfl (fun _ _ => rfl)

/-! ### a new block, told ahead of its place -/
def Made (μ : Nat → Value) (H : AHeap) (w : World) (ok : Nat → Prop) (w' : World) (u : Value) : Blk → Prop
  | .var ty cells => ∃ g cur, u = .pointer (some ⟨g, 0, none⟩) ∧ w'.heap[g]? = some (.cells cur ty (0, 0)) ∧ cur.size = cells.length ∧
      ∀ (i : Nat) (x : AV), cells[i]? = some x → Rep μ H w ok x (cur.getD i undef) ∧ (cur.getD i undef).oneCell' = true
  | .row ty sz els => 0 < sz ∧ (∀ (i : Nat) (x : List FV), els[i]? = some x → x.length = sz) ∧ ∃ vals : List Value, w'.ownsRow 0 ty sz u els.length vals ∧
      ∀ (i j : Nat) (x : List FV) (f : FV), els[i]? = some x → x[j]? = some f → RepF w ok f (vals.getD (i * sz + j) undef)
  | .obj o => ∃ g, u = objV o g ∧ w'.heap[g]? = some o

theorem Made.brep {μ μ' : Nat → Value} {H H' : AHeap} {w w' : World} {ok ok' : Nat → Prop} {u : Value} {B : Blk} {b : Nat} (h : Made μ H w ok w' u B) (hu : μ' b = u)
    (hx : ∀ x v, Rep μ H w ok x v → Rep μ' H' w' ok' x v) (hf : ∀ f v, RepF w ok f v → RepF w' ok' f v) : BRep μ' H' w' ok' b B := by
  cases B with
  | var ty cells =>
    obtain ⟨g, cur, e, hg, hcs, hcell⟩ := h
    exact ⟨g, cur, hu.trans e, hg, hcs, fun i x hx' => ⟨hx _ _ (hcell i x hx').1, (hcell i x hx').2⟩⟩
  | row ty sz els =>
    obtain ⟨h1, h2, vals, ho, hv⟩ := h
    exact ⟨h1, h2, vals, by rw [hu]; exact ho, fun i j x f hx' hf' => hf _ _ (hv i j x f hx' hf')⟩
  | obj o => obtain ⟨g, e, hg⟩ := h; exact ⟨g, by rw [hu]; exact e, hg⟩
theorem Made.one {μ : Nat → Value} {H : AHeap} {w : World} {ok : Nat → Prop} {w' : World} {u : Value} {B : Blk} (h : Made μ H w ok w' u B) : u.oneCell' = true := by
  cases B with
  | var ty cells => obtain ⟨g, cur, e, _⟩ := h; rw [e]; rfl
  | row ty sz els =>
    obtain ⟨_, _, vals, ho, _⟩ := h
    rcases ho.2 with ⟨e, _⟩ | ⟨g, cap, cur, e, _⟩ <;> rw [e] <;> rfl
  | obj o => obtain ⟨g, e, _⟩ := h; rw [e]; exact one_objV o g
theorem Made.newV {μ μ' : Nat → Value} {H H' : AHeap} {w w' w1 : World} {ok ok' : Nat → Prop} {u : Value} {B : Blk} {b : Nat} (h : Made μ H w ok w' u B) (hb : getH H' b = some B) (hu : μ' b = u) : Rep μ' H' w1 ok' (newV b B) u := by
  cases B with
  | var ty cells => obtain ⟨g, cur, e, _⟩ := h; subst e; exact .ptr hb (by rw [hu]; rfl)
  | row ty sz els => exact .own hb hu.symm h.one
  | obj o => exact .ob hb hu.symm h.one

/-- .. at the end. -/
theorem Rel.push_made {X : Nat → Prop} {μ : Nat → Value} {H : AHeap} {w w' : World} {u : Value} {B : Blk} (h : Rel X μ H w) (e : Ext w w') (hu : ∀ k, blkOf u = some k → w.heap.size ≤ k) (hm : Made μ H w (Fz X μ H w) w' u B) :
    Rel X (upd μ H.length u) (H ++ [some B]) w' ∧ Keep H.length μ H w (upd μ H.length u) (H ++ [some B]) w' ∧
      (∀ x v, Rep μ H w (Fz X μ H w) x v → Rep (upd μ H.length u) (H ++ [some B]) w' (Fz X (upd μ H.length u) (H ++ [some B]) w') x v) ∧
      Rep (upd μ H.length u) (H ++ [some B]) w' (Fz X (upd μ H.length u) (H ++ [some B]) w') (Ai.newV H.length B) u := by
  have hx : ∀ x v, Rep μ H w (Fz X μ H w) x v → Rep (upd μ H.length u) (H ++ [some B]) w' (Fz X (upd μ H.length u) (H ++ [some B]) w') x v := fun x v hx => push_rep h e.size e.heap hu hx
  obtain ⟨h1, h2⟩ := h.push e.size e.os e.tape e.output e.heap hu (hm.brep (upd_self _ _ _) hx (fun f v hf => hf.move (push_fz h e.size e.heap hu)))
  exact ⟨h1, h2, hx, hm.newV (getH_last H B) (upd_self _ _ _)⟩

section fill
variable {X : Nat → Prop} {μ : Nat → Value} {H : AHeap} {w w' : World} {u : Value} {B : Blk} {b : Nat}
theorem fill_get (hb : getH H b = none) (hlt : b < H.length) {c : Nat} {B1 : Blk} (h : getH (setH H b (some B)) c = some B1) : (c = b ∧ B1 = B) ∨ (c ≠ b ∧ getH H c = some B1) := by
  by_cases hc : c = b
  · subst hc
    rw [getH_setH_self hlt] at h
    exact .inl ⟨rfl, (Option.some.inj h).symm⟩
  · rw [getH_setH_ne hc] at h
    exact .inr ⟨hc, h⟩
theorem fill_fz (hb : getH H b = none) (hlt : b < H.length) (e : Ext w w') (hu : ∀ k, blkOf u = some k → w.heap.size ≤ k) :
    ∀ k, Fz X μ H w k → Fz X (upd μ b u) (setH H b (some B)) w' k ∧ w'.heap[k]? = w.heap[k]? := fun k hk => by
  refine ⟨⟨Nat.lt_of_lt_of_le hk.1 e.size, hk.2.1, ?_⟩, e.heap k hk.1⟩
  rintro ⟨c, B', hc, e'⟩
  rcases fill_get hb hlt hc with ⟨rfl, _⟩ | ⟨hcb, hc'⟩
  · rw [upd_self] at e'
    have := hu k e'
    have := hk.1
    omega
  · rw [upd_ne hcb] at e'
    exact hk.2.2 ⟨c, B', hc', e'⟩
theorem Rep.fill (hb : getH H b = none) (hlt : b < H.length) {ok ok' : Nat → Prop} (hk : ∀ k, ok k → ok' k ∧ w'.heap[k]? = w.heap[k]?) {x : AV} {v : Value} (h : Rep μ H w ok x v) (hr : refsIn (fun c => c != b) x = true) :
    Rep (upd μ b u) (setH H b (some B)) w' ok' x v := by
  have live : ∀ {c : Nat} {B1 : Blk}, c ≠ b → getH H c = some B1 → getH (setH H b (some B)) c = some B1 := fun hc hB => by rw [getH_setH_ne hc]; exact hB
  have ne : ∀ {c : Nat} {B1 : Blk}, getH H c = some B1 → c ≠ b := by rintro c B1 h rfl; rw [hb] at h; cases h
  induction h with
  | fz h => exact .fz (h.move hk)
  | agg hl' _ h1' ih =>
    simp only [refsIn] at hr
    exact .agg hl' (fun i x hx => ih i x hx ((refsInL_iff _).1 hr i x hx)) h1'
  | own h hv h1' => exact .own (live (ne h) h) (hv.trans (upd_ne (ne h)).symm) h1'
  | ob h hv h1' => exact .ob (live (ne h) h) (hv.trans (upd_ne (ne h)).symm) h1'
  | vw h hm hc hA => exact .vw (live (ne h) h) hm hc (fun h0 => by rw [upd_ne (ne h)]; exact hA h0)
  | ptr h hg => exact .ptr (live (ne h) h) (by rw [upd_ne (ne h)]; exact hg)
  | ep h hi hg => exact .ep (live (ne h) h) hi (by rw [upd_ne (ne h)]; exact hg)
  | fp U hok hcell hrep =>
    refine .fp U (hk _ hok).1 (fun j f hf => ?_) (fun j f hf => (hrep j f hf).move hk)
    rw [← hcell j f hf]
    refine World.cell?_of_block ?_
    rw [show (Addr.add _ j).block = _ from by unfold Addr.add; split <;> rfl]
    exact (hk _ hok).2
  | ifc _ ih => exact .ifc (ih (by simpa only [refsIn] using hr))
  | fn ha hc _ _ ih ih' =>
    simp only [refsIn, Bool.and_eq_true] at hr
    exact .fn ha hc (fun i x hx => ih i x hx ((refsInL_iff _).1 hr.1 i x hx)) (fun i x hx => ih' i x hx ((refsInL_iff _).1 hr.2 i x hx))
  | tup hl' _ ih =>
    simp only [refsIn] at hr
    exact .tup hl' (fun i x hx => ih i x hx ((refsInL_iff _).1 hr i x hx))
  | dead hx hc h h1 =>
    rename_i x _ c
    have hne : c ≠ b := by cases x <;> simp [refOf] at hx <;> subst hx <;> simpa [refsIn] using hr
    exact .dead hx (by rw [length_setH]; exact hc) (by rw [getH_setH_ne hne]; exact h) h1
  | junk => exact .junk

/-- A place that was kept is filled. -/
theorem Rel.fill (h : Rel X μ H w) (hb : getH H b = none) (hlt : b < H.length) (e : Ext w w') (hu : ∀ k, blkOf u = some k → w.heap.size ≤ k)
    (hc : ∀ c ty cells, getH H c = some (.var ty cells) → refsInL (fun c => c != b) cells = true)
    (hB : BRep (upd μ b u) (setH H b (some B)) w' (Fz X (upd μ b u) (setH H b (some B)) w') b B) : Rel X (upd μ b u) (setH H b (some B)) w' := by
  have hmv := fill_fz (X := X) (μ := μ) (B := B) hb hlt e hu
  refine ⟨fun k hk => Nat.lt_of_lt_of_le (h.xlt k hk) e.size, fun c B' k hc' e' => ?_, fun c c' B1 B2 k hc1 hc2 e1 e2 => ?_, fun c B' hc' => ?_⟩
  · rcases fill_get hb hlt hc' with ⟨rfl, _⟩ | ⟨hcb, hc''⟩
    · rw [upd_self] at e'
      intro hX
      have := hu k e'
      have := h.xlt k hX
      omega
    · rw [upd_ne hcb] at e'; exact h.notX c B' k hc'' e'
  · rcases fill_get hb hlt hc1 with ⟨rfl, _⟩ | ⟨hcb, h1⟩ <;> rcases fill_get hb hlt hc2 with ⟨rfl, _⟩ | ⟨hcb', h2⟩
    · rfl
    · rw [upd_self] at e1
      rw [upd_ne hcb'] at e2
      have := hu k e1
      have := h.lt h2 e2
      omega
    · rw [upd_ne hcb] at e1
      rw [upd_self] at e2
      have := hu k e2
      have := h.lt h1 e1
      omega
    · rw [upd_ne hcb] at e1
      rw [upd_ne hcb'] at e2
      exact h.dis c c' _ _ k h1 h2 e1 e2
  · rcases fill_get hb hlt hc' with ⟨rfl, rfl⟩ | ⟨hcb, hc''⟩
    · exact hB
    · have hrep := h.blk c B' hc''
      cases B' with
      | var cty cells =>
        obtain ⟨g, cur, e1, hg, hcs, hcell⟩ := hrep
        refine ⟨g, cur, by rw [upd_ne hcb]; exact e1, (e.heap g (Array.getElem?_eq_some_iff.1 hg).1).trans hg, hcs, fun i x hx => ⟨(hcell i x hx).1.fill hb hlt hmv ((refsInL_iff _).1 (hc c cty cells hc'') i x hx), (hcell i x hx).2⟩⟩
      | row cty csz cels =>
        obtain ⟨h1, h2, vals, ho, hv⟩ := hrep
        refine ⟨h1, h2, vals, ?_, fun i j x f hx hf => (hv i j x f hx hf).move hmv⟩
        rw [upd_ne hcb]
        exact ownsRow_move ho (fun k hk => e.heap k (h.lt hc'' hk))
      | obj o => exact BRep.objMove hrep (upd_ne hcb) (fun k hk => e.heap k (h.lt hc'' hk))
end fill

end Go.Proofs.Ai
