/- The abstract machine, 18: one operation of the front, whichever is listed. -/
import Derived.Test.YtfjjeijkbhcoaaaBiDraw2
set_option linter.unusedVariables false
set_option linter.unusedSimpArgs false
namespace Go.Proofs.Ai
open Go

section
variable {P : Program} {T : Tab} {call : CallF} {ops : Array Oper}
namespace Fronts
variable {s : St} {m : Nat} {g : Nat → Front} (hF : Fronts P T call ops s m g)
include hF

theorem done_val : ∀ i, i ≤ m → ∀ e ∈ (g i).done, e.1 < i ∧ ∃ o nm, ops[e.1]? = some o ∧ e.2.1 = o.dst ∧ (g (e.1 + 1)).made = (g e.1).made ++ nm ∧ (nm = [] ∨ ∃ B, nm = [(e.1, B)]) ∧ VOK (hAt s (dOf ops e.1) (g e.1)) (nm ≠ []) e.2.2 := by
  intro i
  induction i with
  | zero => intro _ e he; rw [hF.zero] at he; cases he
  | succ i ih =>
    intro hi e he
    obtain ⟨o, v, nm, ho, f1, f2, f3, f4⟩ := hF.val (j := i) (by omega)
    rw [f1] at he
    rcases List.mem_append.1 he with he | he
    · obtain ⟨h1, h2⟩ := ih (by omega) e he
      exact ⟨by omega, h2⟩
    · simp at he
      subst he
      exact ⟨Nat.lt_succ_self i, o, nm, ho, rfl, f2, f3.imp id (fun ⟨B, h, _⟩ => ⟨B, h⟩), f4⟩
theorem made_val : ∀ i, i ≤ m → ∀ e ∈ (g i).made, e.1 < i ∧ BOK ops s g e.1 e.2 := by
  intro i
  induction i with
  | zero => intro _ e he; rw [hF.zero] at he; cases he
  | succ i ih =>
    intro hi e he
    obtain ⟨o, v, nm, ho, f1, f2, f3, f4⟩ := hF.val (j := i) (by omega)
    rw [f2] at he
    rcases List.mem_append.1 he with he | he
    · obtain ⟨h1, h2⟩ := ih (by omega) e he
      exact ⟨by omega, h2⟩
    · rcases f3 with rfl | ⟨B, rfl, hB⟩
      · cases he
      · simp at he; subst he; exact ⟨Nat.lt_succ_self i, hB⟩
theorem made_len {i j : Nat} (hij : i ≤ j) (hj : j ≤ m) : (g i).made.length ≤ (g j).made.length := by
  obtain ⟨d, nm, _, h, _⟩ := hF.rest hij hj
  rw [h]; simp
theorem made_get {i j : Nat} (hij : i ≤ j) (hj : j ≤ m) {k : Nat} {e : Nat × Blk} (h : (g i).made[k]? = some e) : (g j).made[k]? = some e := by
  obtain ⟨d, nm, _, h', _⟩ := hF.rest hij hj
  rw [h', List.getElem?_append_left (List.getElem?_eq_some_iff.1 h).1]; exact h
end Fronts

structure FrontInv (X : Nat → Prop) (ops : Array Oper) (s : St) (m : Nat) (g : Nat → Front) (μ0 : Nat → Value) (w0 : World) (L : Nat → Bool) (a : Act) (w : World) : Prop where
  sub : ∀ i, L i = true → i < m
  st : ∃ μ, Rel X μ (hAt s L (g m)) w ∧ (∀ t, Rep μ (hAt s L (g m)) w (Fz X μ (hAt s L (g m)) w) (getT (tmpsAt L s.tmps (g m).done) t) (a.tmps.getD t undef)) ∧ Keep s.heap.length μ0 s.heap w0 μ (hAt s L (g m)) w
  size : a.tmps.size = s.tmps.length
  dfr : a.defers = []

/-- What the state before the region speaks of. -/
structure Init (s : St) : Prop where
  tmps : ∀ t, refsIn (fun c => decide (c < s.heap.length)) (getT s.tmps t) = true
  blk : ∀ c ty cells, getH s.heap c = some (.var ty cells) → refsInL (fun c => decide (c < s.heap.length)) cells = true

theorem RelS.init {X : Nat → Prop} {μ : Nat → Value} {s : St} {a : Act} {w : World} (h : RelS X μ s a w) : Init s := by
  refine ⟨fun t => (h.ctx.tmps t).refs, fun c ty cells hc => ?_⟩
  obtain ⟨g, cur, _, _, _, hcell⟩ := h.ctx.rel.blk c _ hc
  exact (refsInL_iff _).2 fun i x hx => (hcell i x hx).1.refs

theorem liveIn_iff {H : AHeap} {c : Nat} : liveIn H c = true ↔ ∃ B, getH H c = some B := by
  unfold liveIn; cases getH H c <;> simp
theorem liveIn_lt {H : AHeap} {c : Nat} (h : liveIn H c = true) : c < H.length := by
  obtain ⟨B, hB⟩ := liveIn_iff.1 h; exact getH_lt hB

theorem Made.brep' {μ μ' : Nat → Value} {H H' : AHeap} {w w' : World} {ok ok' : Nat → Prop} {u : Value} {B : Blk} {b : Nat} {p : Nat → Bool} (h : Made μ H w ok w' u B) (hp : refsInB p (some B) = true) (hu : μ' b = u)
    (hx : ∀ x v, refsIn p x = true → Rep μ H w ok x v → Rep μ' H' w' ok' x v) (hf : ∀ f v, RepF w ok f v → RepF w' ok' f v) : BRep μ' H' w' ok' b B := by
  cases B with
  | var ty cells =>
    obtain ⟨g, cur, e, hg, hcs, hcell⟩ := h
    exact ⟨g, cur, hu.trans e, hg, hcs, fun i x hx' => ⟨hx _ _ ((refsInL_iff p).1 hp i x hx') (hcell i x hx').1, (hcell i x hx').2⟩⟩
  | row ty sz els =>
    obtain ⟨h1, h2, vals, ho, hv⟩ := h
    exact ⟨h1, h2, vals, by rw [hu]; exact ho, fun i j x f hx' hf' => hf _ _ (hv i j x f hx' hf')⟩
  | obj o => obtain ⟨g, e, hg⟩ := h; exact ⟨g, by rw [hu]; exact e, hg⟩

theorem Keep.fill {X : Nat → Prop} {μ : Nat → Value} {H : AHeap} {w w' : World} {u : Value} {B : Blk} {b N : Nat} (hb : getH H b = none) (hlt : b < H.length) (e : Ext w w') (hu : ∀ k, blkOf u = some k → w.heap.size ≤ k) (hN : N ≤ b) :
    Keep N μ H w (upd μ b u) (setH H b (some B)) w' := by
  refine ⟨e.size, e.os, e.tape, e.output, fun k hk _ => e.heap k hk, fun k hk hn => ?_, by rw [length_setH]; omega, fun c B' hc h' => ?_⟩
  · rintro ⟨c, B', hc, e'⟩
    rcases fill_get hb hlt hc with ⟨rfl, _⟩ | ⟨hcb, hc'⟩
    · rw [upd_self] at e'
      have := hu k e'
      omega
    · rw [upd_ne hcb] at e'
      exact hn ⟨c, B', hc', e'⟩
  · have hcb : c ≠ b := by omega
    rcases fill_get hb hlt h' with ⟨rfl, _⟩ | ⟨_, hc'⟩
    · exact absurd rfl hcb
    · exact ⟨upd_ne hcb, B', hc', sameKind.refl _⟩

theorem front_step {Q : Exit → Act → World → Prop} {X : Nat → Prop} {s : St} {m : Nat} {g : Nat → Front} (hF : Fronts P T call ops s m g) (hT : TabOK P T) (hcall : CallOK P call) (hdraw : drawOK ops = true) (hs : Init s) (hcond : All (g m).cond)
    {μ0 : Nat → Value} {w0 : World} {L : Nat → Bool} {a : Act} {w : World} {i : Nat} (hI : FrontInv X ops s m g μ0 w0 L a w) (hcl : Closed ops L) (hi : i < m) (hLi : L i = false) (hdir : Direct ops L i) :
    wpOp P ops Q i (FrontInv X ops s m g μ0 w0 (put1 L i)) a w := by
  obtain ⟨hdown, hconf⟩ := drawOK_spec hdraw
  obtain ⟨o, ho, hf⟩ := hF.step i hi
  have hisz : i < ops.size := (Array.getElem?_eq_some_iff.1 ho).1
  have hDL : ∀ j, dOf ops i j = true → L j = true := waits_listed hdown hcl i hisz hdir
  have hDlt : ∀ j, dOf ops i j = true → j < i := fun j hj => waits_lt hdown hisz hj
  have hLw : ∀ j, L j = true → ∀ k, dOf ops j k = true → L k = true := fun j hj => waits_listed hdown hcl j (hcl j hj).1 (hcl j hj).2
  obtain ⟨d, nm, e1, e2, hd, hnm, hcnd⟩ := hF.rest (i := i + 1) (j := m) hi (Nat.le_refl _)
  obtain ⟨μ, hR, hTm, hK⟩ := hI.st
  have hdst : ∀ e ∈ (g m).done, ∃ o', ops[e.1]? = some o' ∧ e.2.1 = o'.dst := fun e he => by
    obtain ⟨_, o', _, h1, h2, _⟩ := hF.done_val m (Nat.le_refl _) e he
    exact ⟨o', h1, h2⟩
  -- blocks
  have hleft : Left (hAt s (dOf ops i) (g i)) (hAt s L (g m)) := by
    refine ⟨by simp only [hAt, heapAt_length]; have := hF.made_len (Nat.le_of_lt hi) (Nat.le_refl _); omega, fun c B hc => ?_⟩
    rcases heapAt_get hc with ⟨h1, h2⟩ | ⟨j, k, rfl, h2, h3⟩
    · exact (heapAt_old h1).trans h2
    · exact heapAt_new (hF.made_get (Nat.le_of_lt hi) (Nat.le_refl _) h2) (hDL j h3)
  have hlen : (hAt s (dOf ops i) (g i)).length = s.heap.length + (g i).made.length := heapAt_length _ _ _
  have hblk1 : ∀ c ty cells, getH (hAt s (dOf ops i) (g i)) c = some (.var ty cells) → refsInL (fun c => decide (c < (hAt s (dOf ops i) (g i)).length)) cells = true := by
    intro c ty cells hc
    rcases heapAt_get hc with ⟨h1, h2⟩ | ⟨j, k, rfl, h2, h3⟩
    · refine refsInL_mono (fun c hc => ?_) _ (hs.blk c ty cells h2)
      simp only [decide_eq_true_eq] at hc ⊢; omega
    · obtain ⟨hj, hB⟩ := hF.made_val i (Nat.le_of_lt hi) _ (List.mem_of_getElem? h2)
      refine refsInL_mono (fun c hc => ?_) _ hB
      have := liveIn_lt hc
      simp only [hAt, heapAt_length] at this
      have := hF.made_len (i := j) (j := i) (Nat.le_of_lt hj) (Nat.le_of_lt hi)
      simp only [decide_eq_true_eq]; omega
  have hctxR := hR.drop hleft hblk1
  have h1cell : ∀ b B, getH (hAt s L (g m)) b = some B → (μ b).oneCell' = true := fun b B hb => (hR.blk b B hb).one
  -- temporaries
  have hval : ∀ t, (looks ops o).contains t = true → getT (tmpsAt (dOf ops i) s.tmps (g i).done) t = getT (tmpsAt L s.tmps (g m).done) t := by
    intro t ht
    have h0 : tmpsAt (dOf ops i) s.tmps (g m).done = tmpsAt (dOf ops i) s.tmps (g i).done := by
      obtain ⟨d', _, e', _, hd', _⟩ := hF.rest (i := i) (j := m) (Nat.le_of_lt hi) (Nat.le_refl _)
      rw [e', tmpsAt_app, tmpsAt_off d' _ (fun e he => ?_)]
      cases hh : dOf ops i e.1 with
      | false => rfl
      | true => have := hDlt _ hh; have := hd' e he; omega
    rw [← h0]
    refine tmpsAt_eq _ _ _ (fun e he hne hx => hne ?_) rfl rfl
    obtain ⟨o', ho', hdst'⟩ := hdst e he
    rw [hdst'] at hx
    cases hLe : L e.1 with
    | false =>
      cases hh : dOf ops i e.1 with
      | false => rfl
      | true => rw [hDL _ hh] at hLe; cases hLe
    | true =>
      rcases Nat.lt_trichotomy e.1 i with hlt | heq | hgt
      · exact hconf i e.1 o o' ho ho' hlt (by simp only [conflicts, hx, ht]; simp)
      · rw [heq, hLi] at hLe; cases hLe
      · have := hconf e.1 i o' o ho' ho hgt (by simp only [conflicts, hx, ht]; simp)
        have := hLw _ hLe i this
        rw [hLi] at this; cases this
  have hrefs1 : ∀ t, refsIn (fun c => decide (c < (hAt s (dOf ops i) (g i)).length)) (getT (tmpsAt (dOf ops i) s.tmps (g i).done) t) = true := by
    intro t
    rcases tmpsAt_mem (p := dOf ops i) (t := t) (g i).done s.tmps with h | ⟨e, he, _, h, _⟩
    · rw [h]
      refine refsIn_mono (fun c hc => ?_) _ (hs.tmps t)
      simp only [decide_eq_true_eq] at hc ⊢; omega
    · rw [h]
      obtain ⟨hj, o', nm', _, _, hm', _, hv⟩ := hF.done_val i (Nat.le_of_lt hi) e he
      have hle := hF.made_len (i := e.1 + 1) (j := i) hj (Nat.le_of_lt hi)
      rw [hm'] at hle
      simp only [List.length_append] at hle
      refine hv _ (fun c hc => ?_) (fun hn => ?_)
      · have := liveIn_lt hc
        simp only [hAt, heapAt_length] at this
        simp only [decide_eq_true_eq]; omega
      · have : 0 < nm'.length := List.length_pos_iff.2 hn
        simp only [hAt, heapAt_length, decide_eq_true_eq]; omega
  have hctx : Ctx (aside X μ (hAt s (dOf ops i) (g i)) (hAt s L (g m))) μ (hAt s (dOf ops i) (g i)) w (maskT (looks ops o) 0 (tmpsAt (dOf ops i) s.tmps (g i).done)) a := by
    refine ⟨hctxR, fun t => ?_⟩
    rw [maskT_get, Nat.zero_add]
    split
    · rename_i ht
      have h1 := hTm t
      have h2 := hrefs1 t
      rw [hval t ht] at h2 ⊢
      exact (h1.drop hleft h1cell h2).okIff (fun k hk => (aside_fz hleft k).2 hk)
    · exact .junk
  -- behind it
  have hdone : ∀ {v : AV} {nm1 : List (Nat × Blk)}, (g (i + 1)).done = (g i).done ++ [(i, o.dst, v)] → (g (i + 1)).made = (g i).made ++ nm1 → (nm1 = [] ∨ ∃ B, nm1 = [(i, B)]) →
      (∀ t, getT (tmpsAt (put1 L i) s.tmps (g m).done) t = if o.dst = some t ∧ t < s.tmps.length then v else getT (tmpsAt L s.tmps (g m).done) t) ∧
      (nm1 = [] → hAt s (put1 L i) (g m) = hAt s L (g m)) ∧
      (∀ B, nm1 = [(i, B)] → hAt s (put1 L i) (g m) = setH (hAt s L (g m)) (s.heap.length + (g i).made.length) (some B) ∧ getH (hAt s L (g m)) (s.heap.length + (g i).made.length) = none ∧ s.heap.length + (g i).made.length < (hAt s L (g m)).length) := by
    intro v nm1 f1 f2 f3
    have hne : ∀ e : Nat × Blk, e.1 < i ∨ i + 1 ≤ e.1 → put1 L i e.1 = L e.1 := fun e he => by
      have : e.1 ≠ i := by omega
      simp [put1, this]
    have hlt1 := (hF.lt (Nat.le_of_lt hi)).2
    refine ⟨fun t => ?_, fun hn => ?_, fun B hB => ?_⟩
    · by_cases ht : o.dst = some t
      · rw [e1, f1, List.append_assoc, List.singleton_append, tmpsAt_app]
        simp only [tmpsAt]
        have hpi : put1 L i i = true := by simp [put1]
        rw [if_pos hpi]
        have h1 := tmpsAt_eq (p := put1 L i) (q := fun _ => false) (t := t) d (putT (tmpsAt (put1 L i) s.tmps (g i).done) o.dst v) (putT (tmpsAt (put1 L i) s.tmps (g i).done) o.dst v) (fun e he hne' hx => by
          have hge := (hd e he).1
          have hLe : L e.1 = true := by
            have h' : put1 L i e.1 = true := by cases hh : put1 L i e.1 with | true => rfl | false => exact absurd hh hne'
            have : e.1 ≠ i := by omega
            simpa [put1, this] using h'
          obtain ⟨o', ho', hdst'⟩ := hdst e (by rw [e1]; exact List.mem_append_right _ he)
          rw [hdst'] at hx
          have := hconf e.1 i o' o ho' ho (by omega) (by simp only [conflicts, hx, ht]; simp)
          have := hLw _ hLe i this
          rw [hLi] at this; cases this) rfl rfl
        rw [h1, tmpsAt_off d _ (fun e he => rfl), putT_getT, tmpsAt_length]
        by_cases hlt : t < s.tmps.length
        · rw [if_pos ⟨ht, hlt⟩, if_pos ⟨ht, hlt⟩]
        · rw [if_neg (fun h => hlt h.2), if_neg (fun h => hlt h.2), getT_oob (by rw [tmpsAt_length]; exact Nat.le_of_not_lt hlt), getT_oob (by rw [tmpsAt_length]; exact Nat.le_of_not_lt hlt)]
      · rw [if_neg (fun h => ht h.1)]
        refine tmpsAt_eq _ _ _ (fun e he hne' hx => ?_) rfl rfl
        obtain ⟨o', ho', hdst'⟩ := hdst e he
        by_cases hei : e.1 = i
        · rw [hei, ho] at ho'
          cases ho'
          rw [hdst'] at hx
          exact ht hx
        · exact hne' (by simp [put1, hei])
    · subst hn
      refine heapAt_congr (fun e he => hne e ?_)
      rw [e2, f2, List.append_nil] at he
      rcases List.mem_append.1 he with h | h
      · exact .inl (hlt1 e h)
      · exact .inr (hnm e h).1
    · subst hB
      have hm' : (g m).made = (g i).made ++ (i, B) :: nm := by rw [e2, f2]; simp
      have hmap : ∀ p : Nat → Bool, hAt s p (g m) = (s.heap ++ (g i).made.map fun q => if p q.1 then some q.2 else none) ++ (if p i then some B else none) :: nm.map fun q => if p q.1 then some q.2 else none := fun p => by
        simp only [hAt, heapAt, hm', List.map_append, List.map_cons, List.append_assoc]
      have hl : (s.heap ++ (g i).made.map fun q => if L q.1 then some q.2 else none).length = s.heap.length + (g i).made.length := by simp
      refine ⟨?_, ?_, ?_⟩
      · rw [hmap L, ← hl, setH_mid, hmap (put1 L i)]
        have a1 : ((g i).made.map fun q => if put1 L i q.1 then some q.2 else none) = (g i).made.map fun q => if L q.1 then some q.2 else none := List.map_congr_left fun e he => by rw [hne e (.inl (hlt1 e he))]
        have a2 : (nm.map fun q => if put1 L i q.1 then some q.2 else none) = nm.map fun q => if L q.1 then some q.2 else none := List.map_congr_left fun e he => by rw [hne e (.inr (hnm e he).1)]
        rw [a1, a2]
        simp [put1]
      · rw [hmap L, ← hl, getH_mid]
        simp [hLi]
      · rw [hmap L, List.length_append, hl]; simp
  have hclose : ∀ {v : AV} {nm1 : List (Nat × Blk)} {u : Value} {μ' : Nat → Value} {w' : World}, (g (i + 1)).done = (g i).done ++ [(i, o.dst, v)] → (g (i + 1)).made = (g i).made ++ nm1 → (nm1 = [] ∨ ∃ B, nm1 = [(i, B)]) →
      Rel X μ' (hAt s (put1 L i) (g m)) w' → (∀ t, Rep μ' (hAt s (put1 L i) (g m)) w' (Fz X μ' (hAt s (put1 L i) (g m)) w') (getT (tmpsAt L s.tmps (g m).done) t) (a.tmps.getD t undef)) →
      Rep μ' (hAt s (put1 L i) (g m)) w' (Fz X μ' (hAt s (put1 L i) (g m)) w') v u → Keep s.heap.length μ (hAt s L (g m)) w μ' (hAt s (put1 L i) (g m)) w' → FrontInv X ops s m g μ0 w0 (put1 L i) (a.put o.dst u) w' := by
    intro v nm1 u μ' w' f1 f2 f3 r1 r2 r3 r4
    obtain ⟨q1, _, _⟩ := hdone f1 f2 f3
    refine ⟨fun j hj => ?_, ⟨μ', r1, fun t => ?_, hK.trans r4⟩, by rw [put_size]; exact hI.size, by rw [put_dfr]; exact hI.dfr⟩
    · simp only [put1, Bool.or_eq_true, beq_iff_eq] at hj
      rcases hj with rfl | hj
      · exact hi
      · exact hI.sub j hj
    · rw [q1 t, put_getD, hI.size]
      split
      · exact r3
      · exact r2 t
  have hKlen : s.heap.length ≤ (hAt s L (g m)).length := by simp only [hAt, heapAt_length]; omega
  -- the step
  unfold front1 at hf
  simp only at hf
  have hmask : tmpsAt ((waits ops.toList).getD i 0).testBit s.tmps (g i).done = tmpsAt (dOf ops i) s.tmps (g i).done := rfl
  have hheap : heapAt ((waits ops.toList).getD i 0).testBit s.heap (g i).made = hAt s (dOf ops i) (g i) := rfl
  rw [hmask, hheap] at hf
  have hc1 : All (g (i + 1)).cond := hcnd hcond
  split at hf
  · cases hf
  · rename_i hw
    have hwant := want_ok hctx.tmps hw
    simp only [wpOp, ho, hwant]
    have f1 : (g (i + 1)).done = (g i).done ++ [(i, o.dst, .tup [])] := by rw [← Option.some.inj hf]
    have f2 : (g (i + 1)).made = (g i).made ++ [] := by rw [← Option.some.inj hf]; simp
    have hh := (hdone f1 f2 (.inl rfl)).2.1 rfl
    refine hclose f1 f2 (.inl rfl) (by rw [hh]; exact hR) (by rw [hh]; exact hTm) rep_undef (by rw [hh]; exact Keep.refl hKlen)
  · rename_i hw
    have hwant := want_ok hctx.tmps hw
    simp only [wpOp, ho, hwant, if_true]
    refine .inl ?_
    have post := aop_ok (base := s.base) hctx hT o (g i).hints
    split at hf
    · rename_i v hs' c heq
      split at hf
      · rename_i hv
        rw [heq] at post
        have f1 : (g (i + 1)).done = (g i).done ++ [(i, o.dst, v)] := by rw [← Option.some.inj hf]
        have f2 : (g (i + 1)).made = (g i).made ++ [] := by rw [← Option.some.inj hf]; simp
        have hcc : All c := by rw [← Option.some.inj hf] at hc1; exact (All_app.1 hc1).1
        obtain ⟨u, p1, p2⟩ := post hcc
        have hh := (hdone f1 f2 (.inl rfl)).2.1 rfl
        unfold Oper.wp
        rw [p1]
        exact hclose f1 f2 (.inl rfl) (by rw [hh]; exact hR) (by rw [hh]; exact hTm) (by rw [hh]; exact (p2.okIff (fun k hk => (aside_fz hleft k).1 hk)).lift hleft hv) (by rw [hh]; exact Keep.refl hKlen)
      · cases hf
    · rename_i B hs' c heq
      split at hf
      · rename_i hv
        rw [heq] at post
        have f1 : (g (i + 1)).done = (g i).done ++ [(i, o.dst, newV (hAt s (dOf ops i) (g i)).length B)] := by rw [← Option.some.inj hf]
        have f2 : (g (i + 1)).made = (g i).made ++ [(i, B)] := by rw [← Option.some.inj hf]
        have hcc : All c := by rw [← Option.some.inj hf] at hc1; exact (All_app.1 hc1).1
        obtain ⟨u, w', p1, p2, p3, p4⟩ := post hcc
        simp only [killAll] at p4
        obtain ⟨hh, hnone, hplt⟩ := (hdone f1 f2 (.inr ⟨B, rfl⟩)).2.2 B rfl
        have hpos : (g m).made[(g i).made.length]? = some (i, B) := by
          rw [e2, f2, List.append_assoc, List.getElem?_append_right (Nat.le_refl _)]; simp
        -- nobody listed speaks of the new place
        have hfresh : ∀ j, L j = true → ∀ c, liveIn (hAt s (dOf ops j) (g j)) c = true → c ≠ s.heap.length + (g i).made.length := by
          intro j hj c hc heq'
          subst heq'
          obtain ⟨B', hB'⟩ := liveIn_iff.1 hc
          have hjm := hI.sub j hj
          rcases heapAt_get hB' with ⟨h1, _⟩ | ⟨j', k, hk, h2, h3⟩
          · omega
          · obtain rfl : k = (g i).made.length := by omega
            have := hF.made_get (Nat.le_of_lt hjm) (Nat.le_refl _) h2
            rw [hpos] at this
            simp only [Option.some.injEq, Prod.mk.injEq] at this
            have := hLw j hj j' h3
            rw [← ‹i = j' ∧ B = B'›.1, hLi] at this
            cases this
        have hrefs2 : ∀ t, refsIn (fun c => c != s.heap.length + (g i).made.length) (getT (tmpsAt L s.tmps (g m).done) t) = true := by
          intro t
          rcases tmpsAt_mem (p := L) (t := t) (g m).done s.tmps with h | ⟨e, he, hLe, h, _⟩
          · rw [h]
            refine refsIn_mono (fun c hc => ?_) _ (hs.tmps t)
            simp only [decide_eq_true_eq] at hc
            simp only [bne_iff_ne, ne_eq]; omega
          · rw [h]
            obtain ⟨hj, o', nm', _, _, hm', hnm', hv'⟩ := hF.done_val m (Nat.le_refl _) e he
            refine hv' _ (fun c hc => by simpa using hfresh e.1 hLe c hc) (fun hn => ?_)
            rcases hnm' with rfl | ⟨B', rfl⟩
            · exact absurd rfl hn
            · simp only [hAt, heapAt_length, bne_iff_ne, ne_eq]
              intro heq'
              have h1 : (g (e.1 + 1)).made[(g e.1).made.length]? = some (e.1, B') := by rw [hm']; simp
              have h2 := hF.made_get (i := e.1 + 1) (j := m) hj (Nat.le_refl _) h1
              rw [show (g e.1).made.length = (g i).made.length from by omega, hpos] at h2
              simp only [Option.some.injEq, Prod.mk.injEq] at h2
              rw [← h2.1, hLi] at hLe
              cases hLe
        have hblk2 : ∀ c ty cells, getH (hAt s L (g m)) c = some (.var ty cells) → refsInL (fun c => c != s.heap.length + (g i).made.length) cells = true := by
          intro c ty cells hc
          rcases heapAt_get hc with ⟨h1, h2⟩ | ⟨j, k, rfl, h2, h3⟩
          · refine refsInL_mono (fun c hc => ?_) _ (hs.blk c ty cells h2)
            simp only [decide_eq_true_eq] at hc
            simp only [bne_iff_ne, ne_eq]; omega
          · obtain ⟨hj, hB⟩ := hF.made_val m (Nat.le_refl _) _ (List.mem_of_getElem? h2)
            exact refsInL_mono (fun c hc => by simpa using hfresh j h3 c hc) _ hB
        have hmv := fill_fz (X := X) (μ := μ) (B := B) hnone hplt p2 p3
        have hup : ∀ x v, refsIn (liveIn (hAt s (dOf ops i) (g i))) x = true → Rep μ (hAt s (dOf ops i) (g i)) w (Fz (aside X μ (hAt s (dOf ops i) (g i)) (hAt s L (g m))) μ (hAt s (dOf ops i) (g i)) w) x v →
            Rep (upd μ (s.heap.length + (g i).made.length) u) (setH (hAt s L (g m)) (s.heap.length + (g i).made.length) (some B)) w' (Fz X (upd μ (s.heap.length + (g i).made.length) u) (setH (hAt s L (g m)) (s.heap.length + (g i).made.length) (some B)) w') x v := by
          intro x v hx hr
          refine ((hr.okIff (fun k hk => (aside_fz hleft k).1 hk)).lift hleft hx).fill hnone hplt hmv (refsIn_mono (fun c hc => ?_) _ hx)
          have := liveIn_lt hc
          rw [hlen] at this
          simp only [bne_iff_ne, ne_eq]; omega
        have hBR := p4.brep' (μ' := upd μ (s.heap.length + (g i).made.length) u) (b := s.heap.length + (g i).made.length) hv (upd_self _ _ _) hup (fun f v hf => hf.move (fun k hk => hmv k ((aside_fz hleft k).1 hk)))
        have hRel := hR.fill hnone hplt p2 p3 hblk2 hBR
        unfold Oper.wp
        rw [p1]
        refine hclose (μ' := upd μ (s.heap.length + (g i).made.length) u) f1 f2 (.inr ⟨B, rfl⟩) (by rw [hh]; exact hRel) (fun t => by rw [hh]; exact (hTm t).fill hnone hplt hmv (hrefs2 t)) ?_ (by rw [hh]; exact Keep.fill (X := X) hnone hplt p2 p3 (Nat.le_add_right _ _))
        rw [hh, hlen]
        exact p4.newV (getH_setH_self hplt) (upd_self _ _ _)
      · cases hf
    · rename_i f args heq
      split at hf
      · rename_i R hcl'
        split at hf
        · rename_i hq
          simp only [Bool.and_eq_true] at hq
          rw [heq] at post
          obtain ⟨hent, hcalls⟩ := hcall _ _ _ _ _ hcl'
          obtain ⟨vs, p1, p2, p3⟩ := post hent
          have f1 : (g (i + 1)).done = (g i).done ++ [(i, o.dst, R.r)] := by rw [← Option.some.inj hf]
          have f2 : (g (i + 1)).made = (g i).made ++ [] := by rw [← Option.some.inj hf]; simp
          have hcc : All R.c := by rw [← Option.some.inj hf] at hc1; exact (All_app.1 hc1).1
          have hh := (hdone f1 f2 (.inl rfl)).2.1 rfl
          unfold Oper.wp
          rw [p1, Oper.upon_enter]
          refine (hcalls _ μ w vs hcc hctxR p2 p3).mono (fun e w' he => ?_)
          cases e with
          | returned v =>
            obtain ⟨μ', h4, h5⟩ := he
            obtain ⟨q1, q2, q3, q4⟩ := h5 hq.1.1
            obtain ⟨g1, g2, g3, g4, g5⟩ := h4 []
            rw [q1, q2, q3] at g4
            simp only [killAll] at g4
            refine hclose f1 f2 (.inl rfl) (by rw [hh]; exact hR.ext q4) (by rw [hh]; exact fun t => (hTm t).ext q4) ?_ (by rw [hh]; exact Keep.ext q4 hKlen)
            rw [hh]
            exact (g4.okIff (fun k hk => (aside_fz hleft k).1 hk)).lift hleft (refsIn_mono (fun c hc => by cases hc) _ hq.2)
          | panicked c => exact he.elim
          | outgrown => exact he.elim
        · cases hf
      · cases hf
    · cases hf
end
end Go.Proofs.Ai
