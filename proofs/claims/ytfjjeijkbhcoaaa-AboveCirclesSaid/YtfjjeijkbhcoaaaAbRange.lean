/- A rule: a range over a map of uids that was made and is not written any more: its keys come in some order, each once. -/
import Derived.Test.YtfjjeijkbhcoaaaAbClimb
import Derived.Maps.RangeRun
set_option linter.unusedVariables false
set_option linter.unusedSimpArgs false
namespace Go.Proofs.Ai
open Go
open Go.ChangeMaps (setBlock)

section
variable {P : Program} {T : Tab} {call : CallF} {ops : Array Oper} {Q : Exit → Act → World → Prop}

theorem aops_then (hT : TabOK P T) (hcall : CallOK P call) : ∀ (l : List Nat) (os : List Oper), l.map (ops[·]?) = os.map some → ∀ (s s' : St), aops P T call ops os s = some s' → All s'.cond →
    All s.cond ∧ s'.base = s.base ∧ ∀ X μ a w, RelS X μ s a w → ∀ l2 : List Nat, (∀ μ' a' w', RelS X μ' s' a' w' → Keep s.base μ s.heap w μ' s'.heap w' → wpOps P ops Q l2 a' w') → wpOps P ops Q (l ++ l2) a w
  | [], os, hl, s, s', h, hc => by
    have : os = [] := by cases os <;> simp at hl; rfl
    subst this
    simp [aops] at h
    subst h
    exact ⟨hc, rfl, fun X μ a w hR l2 hQ => hQ μ a w hR (Keep.refl hR.base)⟩
  | i :: l, os, hl, s, s', h, hc => by
    cases os with
    | nil => simp at hl
    | cons o rest =>
      simp only [List.map_cons, List.cons.injEq] at hl
      rw [aops_step] at h
      split at h
      · rename_i s1 h1
        obtain ⟨c1, b1, r1⟩ := aops_then hT hcall l rest hl.2 s1 s' h hc
        obtain ⟨c0, b0, r0⟩ := astep_ok (Q := Q) hT hcall hl.1 h1 c1
        refine ⟨c0, b1.trans b0, fun X μ a w hR l2 hQ => ?_⟩
        rw [List.cons_append, wpOps_cons]
        refine r0 X μ a w hR _ (fun μ1 a1 w1 hR1 k1 => r1 X μ1 a1 w1 hR1 l2 (fun μ2 a2 w2 hR2 k2 => hQ μ2 a2 w2 hR2 ?_))
        rw [b0] at k2
        exact k1.trans k2
      · cases h

theorem wpOps_val {i : Nat} {l : List Nat} {o : Oper} {a : Act} {w w' : World} {u : Value} (ho : ops[i]? = some o) (hg : o.guard = none) (hrun : (execOp a.eval o).run P w = .ok (.value u) w') (hK : wpOps P ops Q l (a.put o.dst u) w') : wpOps P ops Q (i :: l) a w := by
  rw [wpOps_cons]
  have hw : Region.wanted o (yielded ops a.tmps) = true := by simp [Region.wanted, hg]
  simp only [wpOp, ho, hw, if_true]
  refine .inl ?_
  unfold Oper.wp
  rw [hrun]
  exact hK

/-! ### one block besides -/
def withB (X : Nat → Prop) (r : Nat) : Nat → Prop := fun k => X k ∨ k = r
theorem Rel.less {X X' : Nat → Prop} {μ : Nat → Value} {H : AHeap} {w : World} (h : Rel X' μ H w) (hX : ∀ k, X k → X' k) : Rel X μ H w ∧ ∀ x v, Rep μ H w (Fz X' μ H w) x v → Rep μ H w (Fz X μ H w) x v := by
  have hok : ∀ k, Fz X' μ H w k → Fz X μ H w k := fun k hk => ⟨hk.1, fun hx => hk.2.1 (hX k hx), hk.2.2⟩
  refine ⟨⟨fun k hk => h.xlt k (hX k hk), fun b B k hb e hx => h.notX b B k hb e (hX k hx), h.dis, fun b B hb => ?_⟩, fun x v hx => hx.okIff hok⟩
  have hB := h.blk b B hb
  cases B with
  | var ty cells =>
    obtain ⟨g, cur, e1, e2, e3, e4⟩ := hB
    exact ⟨g, cur, e1, e2, e3, fun i x hx => ⟨(e4 i x hx).1.okIff hok, (e4 i x hx).2⟩⟩
  | row ty sz els =>
    obtain ⟨e1, e2, vals, e3, e4⟩ := hB
    exact ⟨e1, e2, vals, e3, fun i j x f hx hf => (e4 i j x f hx hf).okIff hok⟩
  | obj o => exact BRep.objMove hB rfl (fun _ _ => rfl)

/-- The world turned at one block that nobody speaks of. -/
theorem Rel.other {X X' : Nat → Prop} {μ : Nat → Value} {H : AHeap} {w w' : World} {r : Nat} (h : Rel X μ H w) (hr : ∀ b B, getH H b = some B → blkOf (μ b) ≠ some r) (hXX : ∀ k, X' k ↔ X k ∨ k = r) (hrl : r < w'.heap.size) (hsz : w.heap.size ≤ w'.heap.size)
    (hheap : ∀ k, k < w.heap.size → k ≠ r → w'.heap[k]? = w.heap[k]?) : (∀ x v, (Rep μ H w (fun k => Fz X μ H w k ∧ k ≠ r) x v) → Rep μ H w' (Fz X' μ H w') x v) ∧
    ((∀ b B, getH H b = some B → BRep μ H w (fun k => Fz X μ H w k ∧ k ≠ r) b B) → Rel X' μ H w') := by
  have hok : ∀ k, (Fz X μ H w k ∧ k ≠ r) → Fz X' μ H w' k ∧ w'.heap[k]? = w.heap[k]? := fun k hk => ⟨⟨Nat.lt_of_lt_of_le hk.1.1 hsz, fun hx => by rcases (hXX k).1 hx with hx | hx; exact hk.1.2.1 hx; exact hk.2 hx, hk.1.2.2⟩, hheap k hk.1.1 hk.2⟩
  have hrep : ∀ x v, (Rep μ H w (fun k => Fz X μ H w k ∧ k ≠ r) x v) → Rep μ H w' (Fz X' μ H w') x v := fun x v hx => hx.keep (Nat.le_refl _) (fun b B' _ hb => ⟨rfl, B', hb, sameKind.refl _⟩) hok
  refine ⟨hrep, fun hblk => ⟨fun k hk => ?_, fun b B k hb e hx => ?_, h.dis, fun b B hb => ?_⟩⟩
  · rcases (hXX k).1 hk with hk | rfl
    · exact Nat.lt_of_lt_of_le (h.xlt k hk) hsz
    · exact hrl
  · rcases (hXX k).1 hx with hx | rfl
    · exact h.notX b B k hb e hx
    · exact hr b B hb e
  · have hmv : ∀ k, blkOf (μ b) = some k → w'.heap[k]? = w.heap[k]? := fun k hk => hheap k (h.lt hb hk) (fun e => hr b B hb (by rw [hk, e]))
    have hB := hblk b B hb
    cases B with
    | var ty cells =>
      obtain ⟨g, cur, e1, e2, e3, e4⟩ := hB
      exact ⟨g, cur, e1, (hmv g (by rw [e1]; rfl)).trans e2, e3, fun i x hx => ⟨hrep _ _ (e4 i x hx).1, (e4 i x hx).2⟩⟩
    | row ty sz els =>
      obtain ⟨e1, e2, vals, e3, e4⟩ := hB
      exact ⟨e1, e2, vals, ownsRow_move e3 hmv, fun i j x f hx hf => (e4 i j x f hx hf).move hok⟩
    | obj o => exact BRep.objMove hB rfl hmv
end

section
variable {P : Program} {T : Tab} {call : CallF} {R : AExit → St → Prop}

theorem RelS.otherS {X X' : Nat → Prop} {μ : Nat → Value} {s : St} {a : Act} {w w' : World} {r : Nat} (h : RelS X μ s a w) (hr : ∀ b B, getH s.heap b = some B → blkOf (μ b) ≠ some r) (hne : ∀ k, Fz X μ s.heap w k → k ≠ r) (hXX : ∀ k, X' k ↔ X k ∨ k = r) (hrl : r < w'.heap.size) (hsz : w.heap.size ≤ w'.heap.size)
    (hheap : ∀ k, k < w.heap.size → k ≠ r → w'.heap[k]? = w.heap[k]?) : RelS X' μ s a w' := by
  obtain ⟨h1, h2⟩ := h.ctx.rel.other hr hXX hrl hsz hheap
  refine ⟨⟨h2 (fun b B hb => ?_), fun t => h1 _ _ ((h.ctx.tmps t).okIff (fun k hk => ⟨hk, hne k hk⟩))⟩, h.size, h.dfr, h.base⟩
  have hok : ∀ k, Fz X μ s.heap w k → Fz X μ s.heap w k ∧ k ≠ r := fun k hk => ⟨hk, hne k hk⟩
  have hB := h.ctx.rel.blk b B hb
  cases B with
  | var ty cells =>
    obtain ⟨g, cur, e1, e2, e3, e4⟩ := hB
    exact ⟨g, cur, e1, e2, e3, fun i x hx => ⟨(e4 i x hx).1.okIff hok, (e4 i x hx).2⟩⟩
  | row ty sz els =>
    obtain ⟨e1, e2, vals, e3, e4⟩ := hB
    exact ⟨e1, e2, vals, e3, fun i j x f hx hf => (e4 i j x f hx hf).okIff hok⟩
  | obj o => exact hB
theorem RelS.putS {X : Nat → Prop} {μ : Nat → Value} {s : St} {a : Act} {w : World} (h : RelS X μ s a w) {x : AV} {v : Value} (hx : Rep μ s.heap w (Fz X μ s.heap w) x v) (d : Option Tmp) : RelS X μ { s with tmps := putT s.tmps d x } (a.put d v) w :=
  ⟨⟨h.ctx.rel, put_reps h.size h.ctx.tmps hx d⟩, by rw [put_size, putT_length]; exact h.size, by rw [put_dfr]; exact h.dfr, h.base⟩

abbrev itV (r : Nat) : AV := .fz (.sc (.pointer (some ⟨r, 0, none⟩)))

theorem mem_left {ks : List Uid} {seen : Array Nat} {e : MapEntry} (h : e ∈ (leftOf (setEs ks) seen).toList) : ∃ p ∈ ks.zipIdx, e = entryOf p ∧ p.2 ∉ seen.toList := by
  simp only [leftOf, Array.toList_filter, List.mem_filter] at h
  obtain ⟨h1, h2⟩ := h
  simp only [setEs, List.mem_map] at h1
  obtain ⟨p, hp, rfl⟩ := h1
  refine ⟨p, hp, rfl, fun hm => ?_⟩
  simp only [Bool.not_eq_true', entryOf] at h2
  rw [Array.contains_eq_mem] at h2
  simp only [decide_eq_false_iff_not] at h2
  exact h2 (Array.mem_toList_iff.1 hm)
theorem none_left {ks : List Uid} {seen : Array Nat} (h : (leftOf (setEs ks) seen).size = 0) : ∀ p ∈ ks.zipIdx, p.2 ∈ seen.toList := by
  intro p hp
  have he : entryOf p ∈ (setEs ks).toList := by simp only [setEs, List.mem_map]; exact ⟨p, hp, rfl⟩
  by_cases hm : p.2 ∈ seen.toList
  · exact hm
  · have hx : entryOf p ∈ (leftOf (setEs ks) seen).toList := by
      simp only [leftOf, Array.toList_filter, List.mem_filter]
      refine ⟨he, ?_⟩
      simp only [Bool.not_eq_true', entryOf, Array.contains_eq_mem, decide_eq_false_iff_not]
      exact fun hh => hm (Array.mem_toList_iff.2 hh)
    have : (leftOf (setEs ks) seen).toList = [] := List.eq_nil_of_length_eq_zero (by simpa using h)
    rw [this] at hx
    cases hx
theorem setEs_born (ks : List Uid) : (∀ x ∈ (setEs ks).toList, x.born < ks.length) ∧ ((setEs ks).toList.map (·.born)).Nodup := by
  constructor
  · intro x hx
    simp only [setEs, List.mem_map] at hx
    obtain ⟨p, hp, rfl⟩ := hx
    have := List.mem_zipIdx hp
    show p.2 < _
    omega
  · have : (setEs ks).toList.map (·.born) = ks.zipIdx.map (·.2) := by simp [setEs, Function.comp_def, entryOf]
    rw [this, List.zipIdx_map_snd]
    exact List.nodup_range'
theorem perm_of_zip {ks : List Uid} {Lp : List (Uid × Nat)} (hn : Lp.Nodup) (h1 : ∀ p ∈ Lp, p ∈ ks.zipIdx) (h2 : ∀ p ∈ ks.zipIdx, p ∈ Lp) : (Lp.map (·.1)).Perm ks := by
  have hz : ks.zipIdx.Nodup := by
    have : (ks.zipIdx.map (·.2)).Nodup := by rw [List.zipIdx_map_snd]; exact List.nodup_range'
    exact List.Pairwise.of_map (S := (· ≠ ·)) (·.2) (fun a b h e => h (by rw [e])) this
  have hp : Lp.Perm ks.zipIdx := (List.perm_ext_iff_of_nodup hn hz).2 (fun p => ⟨h1 p, h2 p⟩)
  have := hp.map (·.1)
  rwa [List.zipIdx_map_fst] at this

/-- The text of such a range. -/
structure OverSet (c : Code) (id idN idE bid bid2 : Nat) (ops opsN opsE : Array Oper) (preL restE : List Oper) (oR oN oX oE : Oper) (mt : TypeId) (tm tI tN tb tE : Tmp) (Bd C : Code) : Prop where
  code : c = .seq (.seq (.region id ops false) (.block bid (.loop (.seq (.region idN opsN false) (.seq (.cond (.tmp tb) .skip (.exit bid)) (.block bid2 (.seq (.region idE opsE false) Bd))))))) C
  hops : ops = (preL ++ [oR]).toArray
  hR : oR.op = .range mt (.tmp tm) ∧ oR.dst = some tI ∧ oR.guard = none
  hopsN : opsN = #[oN, oX]
  hN : oN.op = .next (.tmp tI) false ∧ oN.dst = some tN ∧ oN.guard = none
  hX : oX.op = .extract (.tmp tN) 0 ∧ oX.dst = some tb ∧ oX.guard = none
  hopsE : opsE = (oE :: restE).toArray
  hE : oE.op = .entry (.tmp tI) ∧ oE.dst = some tE ∧ oE.guard = none
  ne : tI ≠ tN ∧ tI ≠ tb ∧ tN ≠ tb

theorem nodup_len {α : Type} : ∀ {l m : List α}, l.Nodup → (∀ x ∈ l, x ∈ m) → l.length ≤ m.length
  | [], _, _, _ => Nat.zero_le _
  | x :: r, m, hn, hs => by
    obtain ⟨a, b, rfl⟩ := List.append_of_mem (hs x List.mem_cons_self)
    rw [List.nodup_cons] at hn
    have := nodup_len (l := r) (m := a ++ b) hn.2 (fun y hy => by
      have := hs y (List.mem_cons_of_mem _ hy)
      rcases List.mem_append.1 this with h | h
      · exact List.mem_append_left _ h
      · rcases List.mem_cons.1 h with rfl | h
        · exact absurd hy hn.1
        · exact List.mem_append_right _ h)
    simp at this ⊢
    omega
/-- Operations in their order, and the state behind them cut down. -/
def aopsTo (P : Program) (T : Tab) (call : CallF) (ops : Array Oper) (l : List Oper) (s : St) (hs : List Hint) (ks : List Tmp) (kills : List Nat) (N : Nat) : Option (List AV × AHeap × List Prop) :=
  match aops P T call ops l { s with hints := hs, cond := [] } with
  | some s' => match trimS ks kills N s' with
    | some y => some (y.tmps, y.heap, s'.cond)
    | none => none
  | none => none
theorem aopsTo_spec {ops : Array Oper} {l : List Oper} {s : St} {hs : List Hint} {ks : List Tmp} {kills : List Nat} {N : Nat} {ts : List AV} {H : AHeap} {cs : List Prop} (h : aopsTo P T call ops l s hs ks kills N = some (ts, H, cs)) :
    ∃ s', aops P T call ops l { s with hints := hs, cond := [] } = some s' ∧ s'.cond = cs ∧ (s'.base = s.base → View s' (stOf ts H s.base)) := by
  unfold aopsTo at h
  split at h
  · rename_i s' h1
    split at h
    · rename_i y h2
      simp only [Option.some.injEq, Prod.mk.injEq] at h
      obtain ⟨rfl, rfl, rfl⟩ := h
      refine ⟨s', h1, rfl, fun hb => ?_⟩
      have hy : y = stOf y.tmps y.heap s.base := by
        have h3 := h2
        unfold trimS at h3
        simp only at h3
        split at h3
        · split at h3
          · split at h3
            · split at h3
              · cases h3
                simp only [stOf, hb]
              · cases h3
            · cases h3
          · cases h3
        · cases h3
      rw [← hy]
      exact View.trim h2
    · cases h
  · cases h
theorem range_get {os : List Oper} : (List.range os.length).map (os.toArray[·]?) = os.map some := by
  apply List.ext_getElem?
  intro i
  simp only [List.getElem?_map]
  rcases Nat.lt_or_ge i os.length with hi | hi
  · simp [hi]
  · simp [List.getElem?_eq_none, hi]

theorem Tr.overSet (hT : TabOK P T) (hcall : CallOK P call) (hm : P.follows .mixedOrders = true) {c C Bd : Code} {id idN idE bid bid2 : Nat} {ops opsN opsE : Array Oper} {preL restE : List Oper} {oR oN oX oE : Oper} {mt : TypeId} {tm tI tN tb tE : Tmp}
    (O : OverSet c id idN idE bid bid2 ops opsN opsE preL restE oR oN oX oE mt tm tI tN tb tE Bd C) {k e : TypeId} (hmt : P.underlying mt = some (.map k e)) {ks : List Uid} {s : St} {hs0 : List Hint} {kk0 : List Tmp} {kl0 : List Nat} {N0 : Nat} {ts0 : List AV} {H0 : AHeap} {cs0 : List Prop}
    (hpre' : aopsTo P T call ops preL s hs0 kk0 kl0 N0 = some (ts0, H0, cs0)) (hpc' : All cs0) (hmap : getT ts0 tm = .fz (.mp (setEs ks) ks.length))
    (I : List Uid → Nat → St → Prop) (h0 : ∀ r, I [] r (stOf (putT ts0 (some tI) (itV r)) H0 s.base))
    (hI : ∀ L r st, I L r st → getT st.tmps tI = itV r ∧ tN < st.tmps.length ∧ tb < st.tmps.length)
    (round : ∀ L r st u, I L r st → L.length < ks.length → u ∈ ks → ∃ hs kk kl N ts H cs, aopsTo P T call opsE restE { st with tmps := putT (putT (putT st.tmps (some tN) (.tup [.boo true, uidV u, .boo true])) (some tb) (.boo true)) (some tE) (.tup [uidV u, .boo true]) } hs kk kl N = some (ts, H, cs) ∧ All cs ∧
      Tr P Bd (stOf ts H st.base) (fun e s' => e = .normal ∧ I (L ++ [u]) r s'))
    (rest : ∀ L r st, I L r st → L.Perm ks → Tr P C { st with tmps := putT (putT st.tmps (some tN) (.tup [.boo false])) (some tb) (.boo false) } R) : Tr P c s R := by
  intro X μ0 a0 w0 hR0 Q hQ
  rw [O.code]
  obtain ⟨hborn, hnd⟩ := setEs_born ks
  obtain ⟨sp1, hpre, hpc, hview⟩ := aopsTo_spec hpre'
  rw [← hpc] at hpc'
  -- the loop
  have key : ∀ (n : Nat) (Lp : List (Uid × Nat)) (r g : Nat) (seen : Array Nat) (st : St) (μ : Nat → Value) (a : Act) (w : World),
      I (Lp.map (·.1)) r st → st.base = s.base → RelS (withB X r) μ st a w → Keep s.base μ0 s.heap w0 μ st.heap w → w0.heap.size ≤ r → r ≠ g → w.heap[r]? = some (.mapIter (some g) ks.length seen ks.length) → w.heap[g]? = some (.map (setEs ks) ks.length) →
      Fz (withB X r) μ st.heap w g → seen.toList = Lp.map (·.2) → Lp.Nodup → (∀ p ∈ Lp, p ∈ ks.zipIdx) → ks.length < Lp.length + n →
      Code.rounds P (.seq (.region idN opsN false) (.seq (.cond (.tmp tb) .skip (.exit bid)) (.block bid2 (.seq (.region idE opsE false) Bd)))) (Exit.inBlock bid (Exit.then (C.wp P Q) Q)) n a w := by
    intro n
    induction n with
    | zero =>
      intro Lp r g seen st μ a w hi hb hR hK hr0 hrg hr hg hgz hseen hnp hsub hlen
      exfalso
      have : Lp.length ≤ ks.zipIdx.length := by
        have hz : ks.zipIdx.Nodup := by
          have : (ks.zipIdx.map (·.2)).Nodup := by rw [List.zipIdx_map_snd]; exact List.nodup_range'
          exact List.Pairwise.of_map (S := (· ≠ ·)) (·.2) (fun a b h e => h (by rw [e])) this
        exact nodup_len hnp hsub
      simp at this
      omega
    | succ n ih =>
      intro Lp r g seen st μ a w hi hb hR hK hr0 hrg hr hg hgz hseen hnp hsub hlen
      obtain ⟨hit, htN, htb⟩ := hI _ r st hi
      have hav : a.eval (.tmp tI) = .pointer (some ⟨r, 0, none⟩) := by
        have := hR.ctx.eval (.tmp tI)
        rw [show evalA st.tmps (.tmp tI) = itV r from hit] at this
        exact (rep_sc_inv this).1
      rw [rounds_succ]
      refine wp_seq (wp_region ?_)
      have hr2 : List.range opsN.size = [0, 1] := by rw [O.hopsN]; rfl
      rw [hr2]
      rcases run_next_at (P := P) w oN.type r g ks.length ks.length seen (setEs ks) ks.length hr hg hborn (Nat.le_refl _) with ⟨hz, hrun⟩ | ⟨en, hen, w1, hw1, hrun⟩
      · -- nothing left
        refine wpOps_val (o := oN) (u := .tuple #[.bool false]) (w' := w) (by rw [O.hopsN]; rfl) O.hN.2.2 ?_ ?_
        · simp only [execOp, O.hN.1, hav, Sem.run_bind, hrun, Result.andThen_ok, Sem.run_pure]
        have hR1 := hR.putS (x := .tup [.boo false]) (v := .tuple #[.bool false]) (.tup rfl (fun i x hx => by
          match i with
          | 0 => simp at hx; subst hx; exact rep_sc rfl
          | i + 1 => simp at hx)) oN.dst
        have hsz : a.tmps.size = st.tmps.length := hR.size
        have hev : (a.put oN.dst (.tuple #[.bool false])).eval (.tmp tN) = .tuple #[.bool false] := by
          show (a.put oN.dst _).tmps.getD tN undef = _
          rw [put_getD, O.hN.2.1, if_pos ⟨rfl, by rw [hsz]; exact htN⟩]
        refine wpOps_val (o := oX) (u := .bool false) (w' := w) (by rw [O.hopsN]; rfl) O.hX.2.2 ?_ ?_
        · simp [execOp, O.hX.1, hev, Instr.extract]
        have hR2 := hR1.putS (x := .boo false) (v := .bool false) (rep_sc rfl) oX.dst
        have hev2 : ((a.put oN.dst (.tuple #[.bool false])).put oX.dst (.bool false)).eval (.tmp tb) = .bool false := by
          show ((a.put oN.dst _).put oX.dst _).tmps.getD tb undef = _
          rw [put_getD, O.hX.2.1, if_pos ⟨rfl, by rw [put_size, hsz]; exact htb⟩]
        show (Code.seq (.cond (.tmp tb) .skip (.exit bid)) _).wp P _ _ w
        refine wp_seq (wp_cond_false hev2 (wp_exit ?_))
        show Exit.inBlock bid (Exit.then (C.wp P Q) Q) (.exit bid) _ w
        simp only [Exit.inBlock, if_true]
        show C.wp P Q _ w
        have hperm : (Lp.map (·.1)).Perm ks := by
          refine perm_of_zip hnp hsub (fun p hp => ?_)
          have := none_left hz p hp
          rw [hseen, List.mem_map] at this
          obtain ⟨q, hq, e⟩ := this
          have hq' := hsub q hq
          have : p = q := by
            have h1 := List.mem_zipIdx_iff_getElem?.1 hp
            have h2 := List.mem_zipIdx_iff_getElem?.1 hq'
            rw [e] at h2
            rw [h1] at h2
            exact Prod.ext (by simpa using h2) e.symm
          rw [this]
          exact hq
        have hrest := rest _ r st hi hperm
        rw [O.hN.2.1, O.hX.2.1] at hR2
        have hlast : RelS X μ { st with tmps := putT (putT st.tmps (some tN) (.tup [.boo false])) (some tb) (.boo false) } ((a.put (some tN) (.tuple #[.bool false])).put (some tb) (.bool false)) w := by
          obtain ⟨g1, g2⟩ := hR2.ctx.rel.less (X := X) (fun k hk => .inl hk)
          exact ⟨⟨g1, fun t => g2 _ _ (hR2.ctx.tmps t)⟩, hR2.size, hR2.dfr, hR2.base⟩
        rw [O.hN.2.1, O.hX.2.1]
        refine hrest X μ _ w hlast Q (fun e s' μ' a' w' h1 h2 h3 h4 => hQ e s' μ' a' w' h1 (h2.trans hb) h3 (hK.trans ?_))
        have hb' : ({ st with tmps := putT (putT st.tmps (some tN) (.tup [.boo false])) (some tb) (.boo false) } : St).base = s.base := hb
        rw [hb'] at h4
        exact h4
      · -- an entry
        obtain ⟨p, hp, rfl, hps⟩ := mem_left hen
        have hrl : r < w.heap.size := (Array.getElem?_eq_some_iff.1 hr).1
        have hw1h : w1.heap = w.heap := by rcases hw1 with rfl | rfl <;> rfl
        let w2 : World := setBlock w1 r (.mapIter (some g) ks.length (seen.push p.2) ks.length)
        have hw2r : w2.heap[r]? = some (.mapIter (some g) ks.length (seen.push p.2) ks.length) := by simp [w2, setBlock, hw1h, hrl]
        have hw2k : ∀ k, k ≠ r → w2.heap[k]? = w.heap[k]? := fun k hk => by
          show (w1.heap.setIfInBounds r _)[k]? = _
          rw [Array.getElem?_setIfInBounds_ne (Ne.symm hk), hw1h]
        have hw2s : w2.heap.size = w.heap.size := by simp [w2, setBlock, hw1h]
        have hw2o : w2.os = w.os ∧ TapeOK w w2 ∧ w2.output = w.output := by rcases hw1 with rfl | rfl; exact ⟨rfl, ⟨rfl, Nat.le_refl _⟩, rfl⟩; exact ⟨rfl, ⟨rfl, Nat.le_succ _⟩, rfl⟩
        have hR' : RelS (withB X r) μ st a w2 := hR.otherS (r := r) (fun b B hb e => hR.ctx.rel.notX b B r hb e (.inr rfl)) (fun k hk e => hk.2.1 (.inr e)) (fun k => ⟨fun h => .inl h, fun h => h.elim (fun h => h) .inr⟩) (by rw [hw2s]; exact hrl) (by rw [hw2s]; exact Nat.le_refl _) (fun k _ hk => hw2k k hk)
        have hK' : Keep s.base μ0 s.heap w0 μ st.heap w2 := ⟨by rw [hw2s]; exact hK.size, hw2o.1.trans hK.os, hw2o.2.1.trans hK.tape, hw2o.2.2.trans hK.output, fun k hk hn => (hw2k k (by omega)).trans (hK.heap k hk hn), hK.free, hK.len, hK.old⟩
        have hkey : Rep μ st.heap w2 (Fz (withB X r) μ st.heap w2) (uidV p.1) (.agg #[.string p.1.1, .string p.1.2]) := .agg rfl (fun i x hx => by
          match i with
          | 0 => simp at hx; subst hx; exact rep_sc rfl
          | 1 => simp at hx; subst hx; exact rep_sc rfl
          | i + 2 => simp at hx) (fun i hi => by
          match i with
          | 0 => rfl
          | 1 => rfl
          | i + 2 => simp at hi; omega)
        refine wpOps_val (o := oN) (u := .tuple #[.bool true, .agg #[.string p.1.1, .string p.1.2], .bool true]) (w' := w2) (by rw [O.hopsN]; rfl) O.hN.2.2 ?_ ?_
        · simp only [execOp, O.hN.1, hav, Sem.run_bind, hrun, Result.andThen_ok, Sem.run_pure]
          rfl
        have hR1 := hR'.putS (x := .tup [.boo true, uidV p.1, .boo true]) (v := .tuple #[.bool true, .agg #[.string p.1.1, .string p.1.2], .bool true]) (.tup rfl (fun i x hx => by
          match i with
          | 0 => simp at hx; subst hx; exact rep_sc rfl
          | 1 => simp at hx; subst hx; exact hkey
          | 2 => simp at hx; subst hx; exact rep_sc rfl
          | i + 3 => simp at hx)) oN.dst
        have hsz : a.tmps.size = st.tmps.length := hR.size
        have hev : (a.put oN.dst (.tuple #[.bool true, .agg #[.string p.1.1, .string p.1.2], .bool true])).eval (.tmp tN) = .tuple #[.bool true, .agg #[.string p.1.1, .string p.1.2], .bool true] := by
          show (a.put oN.dst _).tmps.getD tN undef = _
          rw [put_getD, O.hN.2.1, if_pos ⟨rfl, by rw [hsz]; exact htN⟩]
        refine wpOps_val (o := oX) (u := .bool true) (w' := w2) (by rw [O.hopsN]; rfl) O.hX.2.2 ?_ ?_
        · simp [execOp, O.hX.1, hev, Instr.extract]
        have hR2 := hR1.putS (x := .boo true) (v := .bool true) (rep_sc rfl) oX.dst
        generalize ha2 : (a.put oN.dst (.tuple #[.bool true, .agg #[.string p.1.1, .string p.1.2], .bool true])).put oX.dst (.bool true) = a2 at hR2
        have hev2 : a2.eval (.tmp tb) = .bool true := by
          rw [← ha2]
          show ((a.put oN.dst _).put oX.dst _).tmps.getD tb undef = _
          rw [put_getD, O.hX.2.1, if_pos ⟨rfl, by rw [put_size, hsz]; exact htb⟩]
        show (Code.seq (.cond (.tmp tb) .skip (.exit bid)) _).wp P _ a2 w2
        refine wp_seq (wp_cond_true hev2 (wp_skip ?_))
        show (Code.block bid2 (.seq (.region idE opsE false) Bd)).wp P _ a2 w2
        refine wp_block (wp_seq (wp_region ?_))
        have hnp1 : (Lp ++ [p]).Nodup := by
          rw [List.nodup_append]
          refine ⟨hnp, by simp, fun q hq q' hq' e => ?_⟩
          simp at hq'
          subst hq'
          subst e
          exact hps (by rw [hseen]; exact List.mem_map.2 ⟨q, hq, rfl⟩)
        have hlen1 : (Lp.map (·.1)).length < ks.length := by
          have := nodup_len (m := ks.zipIdx) hnp1 (fun q hq => by
            rcases List.mem_append.1 hq with hq | hq
            · exact hsub q hq
            · simp at hq; subst hq; exact hp)
          simp at this ⊢
          omega
        have hmem1 : p.1 ∈ ks := by
          have := List.mem_zipIdx_iff_getElem?.1 hp
          exact List.mem_of_getElem? this
        obtain ⟨hs, kk, kl, N, ts, H, cs, hto, hcs, htr'⟩ := round _ r st p.1 hi hlen1 hmem1
        obtain ⟨s2, hs2, hc2', hv2⟩ := aopsTo_spec hto
        have hc2 : All s2.cond := by rw [hc2']; exact hcs
        have hav2 : a2.eval (.tmp tI) = .pointer (some ⟨r, 0, none⟩) := by
          rw [← ha2]
          show ((a.put oN.dst _).put oX.dst _).tmps.getD tI undef = _
          rw [put_getD, O.hX.2.1, if_neg (fun h => O.ne.2.1 (Option.some.inj h.1).symm), put_getD, O.hN.2.1, if_neg (fun h => O.ne.1 (Option.some.inj h.1).symm)]
          exact hav
        have hg2 : w2.heap[g]? = some (.map (setEs ks) ks.length) := (hw2k g (Ne.symm hrg)).trans hg
        have hent := run_entry_at (P := P) w2 r g ks.length seen (setEs ks) ks.length (entryOf p) hw2r hg2 (by simp only [setEs, List.mem_map]; exact ⟨p, hp, rfl⟩) hnd
        have hrg' : List.range opsE.size = 0 :: (List.range' 1 restE.length) := by
          rw [O.hopsE, List.size_toArray, List.length_cons, List.range_eq_range', List.range'_succ]
        rw [hrg']
        refine wpOps_val (o := oE) (u := .tuple #[.agg #[.string p.1.1, .string p.1.2], .bool true]) (w' := w2) (by rw [O.hopsE]; rfl) O.hE.2.2 ?_ ?_
        · simp only [execOp, O.hE.1, hav2, Sem.run_bind, hent, Result.andThen_ok, Sem.run_pure]
          rfl
        have hR3 := hR2.putS (x := .tup [uidV p.1, .boo true]) (v := .tuple #[.agg #[.string p.1.1, .string p.1.2], .bool true]) (.tup rfl (fun i x hx => by
          match i with
          | 0 => simp at hx; subst hx; exact hkey
          | 1 => simp at hx; subst hx; exact rep_sc rfl
          | i + 2 => simp at hx)) oE.dst
        rw [O.hN.2.1, O.hX.2.1, O.hE.2.1] at hR3
        rw [O.hE.2.1]
        have hlist : (List.range' 1 restE.length).map (opsE[·]?) = restE.map some := by
          rw [O.hopsE]
          apply List.ext_getElem?
          intro i
          simp only [List.getElem?_map]
          rcases Nat.lt_or_ge i restE.length with hi | hi
          · simp [List.getElem?_range', hi, Nat.add_comm 1 i]
          · rw [List.getElem?_eq_none (by simpa using hi), List.getElem?_eq_none hi]; rfl
        obtain ⟨_, b2, hops2⟩ := aops_ok (Q := Exit.then (Bd.wp P (Exit.inBlock bid2 (Exit.then (Code.rounds P (.seq (.region idN opsN false) (.seq (.cond (.tmp tb) .skip (.exit bid)) (.block bid2 (.seq (.region idE opsE false) Bd)))) (Exit.inBlock bid (Exit.then (C.wp P Q) Q)) n) (Exit.inBlock bid (Exit.then (C.wp P Q) Q))))) (Exit.inBlock bid2 (Exit.then (Code.rounds P (.seq (.region idN opsN false) (.seq (.cond (.tmp tb) .skip (.exit bid)) (.block bid2 (.seq (.region idE opsE false) Bd)))) (Exit.inBlock bid (Exit.then (C.wp P Q) Q)) n) (Exit.inBlock bid (Exit.then (C.wp P Q) Q))))) hT hcall _ _ hlist _ _ hs2 hc2
        have htr := Tr.view (hv2 b2) htr'
        refine hops2 (withB X r) μ _ w2 (hR3.re hs []) (fun μ3 a3 w3 hR4 k4 => ?_)
        show Bd.wp P _ a3 w3
        refine htr (withB X r) μ3 a3 w3 hR4 _ (fun e' s' μ' a' w' hp' hb' hR5 k5 => ?_)
        obtain ⟨rfl, hi'⟩ := hp'
        show Code.rounds P _ _ n a' w'
        have hbs : s2.base = s.base := b2.trans hb
        have kk : Keep s.base μ st.heap w2 μ' s'.heap w' := by
          have k4' : Keep s.base μ st.heap w2 μ3 s2.heap w3 := by
            have : ({ st with tmps := putT (putT (putT st.tmps (some tN) (.tup [.boo true, uidV p.1, .boo true])) (some tb) (.boo true)) (some tE) (.tup [uidV p.1, .boo true]), hints := hs, cond := [] } : St).base = s.base := hb
            rw [this] at k4
            exact k4
          rw [hbs] at k5
          exact k4'.trans k5
        have hrn : ¬ Taken μ st.heap r := fun ⟨b, B, h1, h2⟩ => hR.ctx.rel.notX b B r h1 h2 (.inr rfl)
        have hr' : w'.heap[r]? = some (.mapIter (some g) ks.length (seen.push p.2) ks.length) := (kk.heap r (by rw [hw2s]; exact hrl) hrn).trans hw2r
        have hg' : w'.heap[g]? = some (.map (setEs ks) ks.length) := (kk.heap g (by rw [hw2s]; exact hgz.1) hgz.2.2).trans hg2
        have hm1 : (Lp ++ [p]).map (·.1) = Lp.map (·.1) ++ [p.1] := by simp
        refine ih (Lp ++ [p]) r g (seen.push p.2) s' μ' a' w' (by rw [hm1]; exact hi') (hb'.trans hbs) hR5 (hK'.trans kk) hr0 hrg hr' hg' ⟨Nat.lt_of_lt_of_le hgz.1 (by rw [← hw2s]; exact kk.size), hgz.2.1, kk.free g (by rw [hw2s]; exact hgz.1) hgz.2.2⟩ (by simp [hseen]) ?_ ?_ (by simp; omega)
        · rw [List.nodup_append]
          refine ⟨hnp, by simp, fun q hq q' hq' e => ?_⟩
          simp at hq'
          subst hq'
          subst e
          exact hps (by rw [hseen]; exact List.mem_map.2 ⟨q, hq, rfl⟩)
        · intro q hq
          rcases List.mem_append.1 hq with hq | hq
          · exact hsub q hq
          · simp at hq; subst hq; exact hp
  -- its beginning
  refine wp_seq (wp_seq (wp_region ?_))
  have hrange : List.range ops.size = List.range preL.length ++ [preL.length] := by rw [O.hops]; simp [List.range_succ]
  rw [hrange]
  have hl1 : (List.range preL.length).map (ops[·]?) = preL.map some := by
    rw [O.hops]
    apply List.ext_getElem?
    intro i
    simp only [List.getElem?_map]
    rcases Nat.lt_or_ge i preL.length with hi | hi
    · simp [hi, List.getElem?_append_left hi]
    · simp [List.getElem?_eq_none, hi]
  obtain ⟨_, b1, hgo⟩ := aops_then (Q := Exit.then ((Code.block bid (.loop (.seq (.region idN opsN false) (.seq (.cond (.tmp tb) .skip (.exit bid)) (.block bid2 (.seq (.region idE opsE false) Bd)))))).wp P (Exit.then (C.wp P Q) Q)) (Exit.then (C.wp P Q) Q)) hT hcall _ _ hl1 _ _ hpre hpc'
  refine hgo X μ0 a0 w0 (hR0.re hs0 []) [preL.length] (fun μp a1 w1 hRp kp => ?_)
  have hbp : sp1.base = s.base := b1
  obtain ⟨μ1, hR1, k1⟩ := (hview hbp).2 X μp a1 w1 hRp
  let s1 : St := stOf ts0 H0 s.base
  have hk1 : Keep s.base μ0 s.heap w0 μ1 s1.heap w1 := by
    have kp' : Keep s.base μ0 s.heap w0 μp sp1.heap w1 := kp
    rw [hbp] at k1
    exact kp'.trans k1
  have hb1 : s1.base = s.base := rfl
  have hR1 : RelS X μ1 s1 a1 w1 := hR1
  obtain ⟨g, heq, hgz, hg⟩ : ∃ g, a1.eval (.tmp tm) = .map (some g) ∧ Fz X μ1 s1.heap w1 g ∧ w1.heap[g]? = some (.map (setEs ks) ks.length) := by
    have := hR1.ctx.eval (.tmp tm)
    rw [show evalA s1.tmps (.tmp tm) = _ from hmap] at this
    generalize a1.eval (.tmp tm) = q at this
    cases this with
    | fz hf => cases hf with
      | mp hok hg => exact ⟨_, rfl, hok, hg⟩
    | dead hx => simp [refOf] at hx
  let r := w1.heap.size
  let w2 : World := w1.alloc (.mapIter (some g) ks.length #[] ks.length)
  have hgetg : (getObj g).run P w1 = .ok (.map (setEs ks) ks.length) w1 := by simp [getObj, Sem.run, hg]
  refine wpOps_val (o := oR) (u := .pointer (some ⟨r, 0, none⟩)) (w' := w2) (by rw [O.hops]; simp) O.hR.2.2 ?_ ?_
  · simp only [execOp, O.hR.1, heq, Instr.range, Sem.run_bind, run_underlying hmt, Result.andThen_ok, hgetg]
    rfl
  have hext := alloc_ext w1 (.mapIter (some g) ks.length #[] ks.length)
  have hrlt : r < w2.heap.size := by show w1.heap.size < (w1.heap.push _).size; simp
  have hR2 : RelS (withB X r) μ1 s1 a1 w2 := hR1.otherS (r := r) (fun b B hb e => by have := hR1.ctx.rel.lt hb e; exact Nat.lt_irrefl _ this) (fun k hk e => by have := hk.1; subst e; exact Nat.lt_irrefl _ this) (fun k => Iff.rfl) hrlt hext.size (fun k hk _ => hext.heap k hk)
  have hR3 := hR2.putS (x := itV r) (v := .pointer (some ⟨r, 0, none⟩)) (rep_sc rfl) oR.dst
  rw [O.hR.2.1] at hR3
  rw [O.hR.2.1]
  show (Code.block bid (.loop _)).wp P _ _ w2
  refine wp_block (wp_loop_rounds (ks.length + 1) ?_)
  have hgr : g < r := hgz.1
  exact key (ks.length + 1) [] r g #[] _ μ1 _ w2 (h0 r) hb1 hR3 ⟨Nat.le_trans hk1.size hext.size, hext.os.trans hk1.os, hext.tape.trans hk1.tape, hext.output.trans hk1.output, fun k hk hn => (hext.heap k (Nat.lt_of_lt_of_le hk hk1.size)).trans (hk1.heap k hk hn), hk1.free, hk1.len, hk1.old⟩ hk1.size (by omega) (heap_alloc_new w1 _)
    ((hext.heap g hgz.1).trans hg) ⟨Nat.lt_of_lt_of_le hgz.1 hext.size, fun h => h.elim hgz.2.1 (fun h => absurd h (Nat.ne_of_lt hgr)), hgz.2.2⟩ rfl List.nodup_nil (fun p hp => by cases hp) (by simp)
end
end Go.Proofs.Ai
