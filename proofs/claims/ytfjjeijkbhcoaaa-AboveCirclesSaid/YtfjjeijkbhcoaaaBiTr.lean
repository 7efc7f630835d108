/- The abstract machine, 24: a logic of its runs: code from a state, by rules; loops by what stays. -/
import Derived.Test.YtfjjeijkbhcoaaaBiCall2
set_option linter.unusedVariables false
set_option linter.unusedSimpArgs false
namespace Go.Proofs.Ai
open Go

/-- Code from a state: however it ends, it ends as R says. -/
def Tr (P : Program) (c : Code) (s : St) (R : AExit → St → Prop) : Prop :=
  ∀ (X : Nat → Prop) (μ : Nat → Value) (a : Act) (w : World), RelS X μ s a w → ∀ Q : Exit → Act → World → Prop,
    (∀ e s' μ' a' w', R e s' → s'.base = s.base → RelS X μ' s' a' w' → Keep s.base μ s.heap w μ' s'.heap w' → Q (toExit e) a' w') → c.wp P Q a w

def blkPost (id : Nat) (R : AExit → St → Prop) : AExit → St → Prop
  | .exit i, s => if i = id then R .normal s else R (.exit i) s
  | .normal, s => R .normal s
  | .ret, s => R .ret s
def loopPost {ι : Type} (I : ι → St → Prop) (m : ι → Nat) (i : ι) (R : AExit → St → Prop) : AExit → St → Prop
  | .normal, s => ∃ j, I j s ∧ m j < m i
  | .exit k, s => R (.exit k) s
  | .ret, s => R .ret s

section
variable {P : Program} {T : Tab} {call : CallF} {s : St} {R R1 : AExit → St → Prop}

theorem RelS.re {X : Nat → Prop} {μ : Nat → Value} {a : Act} {w : World} (h : RelS X μ s a w) (hs : List Hint) (cs : List Prop) : RelS X μ { s with hints := hs, cond := cs } a w := ⟨h.ctx, h.size, h.dfr, h.base⟩

theorem Tr.mono {c : Code} (h : Tr P c s R1) (hR : ∀ e s', R1 e s' → R e s') : Tr P c s R :=
  fun X μ a w hr Q hQ => h X μ a w hr Q (fun e s' μ' a' w' h1 => hQ e s' μ' a' w' (hR e s' h1))

theorem Tr.run (hT : TabOK P T) (hcall : CallOK P call) (hm : P.follows .mixedOrders = true) {n : Nat} {c : Code} {hs : List Hint} {e : AExit} {s' : St} (h : aexec P T call n c { s with hints := hs, cond := [] } = some (e, s')) (hc : All s'.cond) (hR : R e s') : Tr P c s R := by
  intro X μ a w hrel Q hQ
  obtain ⟨_, hb, m, hrun⟩ := aexec_ok hT hcall (draw_ok hT hcall hm) n c _ e s' h hc
  exact (hrun X μ a w (hrel.re hs []) Q (fun μ' a' w' h1 h2 => hQ e s' μ' a' w' hR hb h1 h2)).wp

theorem Tr.skip (h : R .normal s) : Tr P .skip s R := fun X μ a w hr Q hQ => wp_skip (hQ .normal s μ a w h rfl hr (Keep.refl hr.base))
theorem Tr.exit {i : Nat} (h : R (.exit i) s) : Tr P (.exit i) s R := fun X μ a w hr Q hQ => wp_exit (hQ (.exit i) s μ a w h rfl hr (Keep.refl hr.base))
theorem Tr.ret (h : R .ret s) : Tr P .ret s R := fun X μ a w hr Q hQ => wp_ret (hQ .ret s μ a w h rfl hr (Keep.refl hr.base))

theorem Tr.seq {x y : Code} (h : Tr P x s R1) (hy : ∀ s1, R1 .normal s1 → s1.base = s.base → Tr P y s1 R) (hx : ∀ e s1, e ≠ .normal → R1 e s1 → R e s1) : Tr P (.seq x y) s R := by
  intro X μ a w hR Q hQ
  refine wp_seq (h X μ a w hR _ (fun e s1 μ1 a1 w1 h1 b1 hR1 k1 => ?_))
  cases e with
  | normal => exact hy s1 h1 b1 X μ1 a1 w1 hR1 Q (fun e s2 μ2 a2 w2 h2 b2 hR2 k2 => hQ e s2 μ2 a2 w2 h2 (b2.trans b1) hR2 (k1.trans (by rw [b1] at k2; exact k2)))
  | exit i => exact hQ (.exit i) s1 μ1 a1 w1 (hx _ s1 (by simp) h1) b1 hR1 k1
  | ret => exact hQ .ret s1 μ1 a1 w1 (hx _ s1 (by simp) h1) b1 hR1 k1

theorem Tr.block {id : Nat} {c : Code} (h : Tr P c s (blkPost id R)) : Tr P (.block id c) s R := by
  intro X μ a w hR Q hQ
  refine wp_block (h X μ a w hR _ (fun e s1 μ1 a1 w1 h1 b1 hR1 k1 => ?_))
  cases e with
  | normal => exact hQ .normal s1 μ1 a1 w1 h1 b1 hR1 k1
  | exit i =>
    simp only [blkPost] at h1
    by_cases hi : i = id
    · rw [if_pos hi] at h1
      have := hQ .normal s1 μ1 a1 w1 h1 b1 hR1 k1
      simpa [toExit, Exit.inBlock, hi] using this
    · rw [if_neg hi] at h1
      have := hQ (.exit i) s1 μ1 a1 w1 h1 b1 hR1 k1
      simpa [toExit, Exit.inBlock, hi] using this
  | ret => exact hQ .ret s1 μ1 a1 w1 h1 b1 hR1 k1

theorem Tr.cond {c : Operand} {x y : Code} {b : Bool} (hev : evalA s.tmps c = .fz (.sc (.bool b))) (h1 : b = true → Tr P x s R) (h2 : b = false → Tr P y s R) : Tr P (.cond c x y) s R := by
  intro X μ a w hR Q hQ
  have hc := hR.ctx.eval c
  rw [hev] at hc
  obtain ⟨e, _⟩ := rep_sc_inv hc
  cases b with
  | true => exact wp_cond e (h1 rfl X μ a w hR Q hQ)
  | false => exact wp_cond e (h2 rfl X μ a w hR Q hQ)

theorem Tr.loop {ι : Type} (I : ι → St → Prop) (m : ι → Nat) {c : Code} (step : ∀ i s, I i s → Tr P c s (loopPost I m i R)) {i : ι} (h0 : I i s) : Tr P (.loop c) s R := by
  have key : ∀ (n : Nat) (i : ι) (s : St), I i s → m i < n → ∀ (X : Nat → Prop) μ a w, RelS X μ s a w → ∀ Q : Exit → Act → World → Prop,
      (∀ e s' μ' a' w', R e s' → s'.base = s.base → RelS X μ' s' a' w' → Keep s.base μ s.heap w μ' s'.heap w' → Q (toExit e) a' w') → Code.rounds P c Q n a w := by
    intro n
    induction n with
    | zero => intro i s _ h; omega
    | succ n ih =>
      intro i s hI hm X μ a w hR Q hQ
      rw [rounds_succ]
      refine step i s hI X μ a w hR _ (fun e s1 μ1 a1 w1 h1 b1 hR1 k1 => ?_)
      cases e with
      | normal =>
        obtain ⟨j, hj, hlt⟩ := h1
        exact ih j s1 hj (by omega) X μ1 a1 w1 hR1 Q (fun e s2 μ2 a2 w2 h2 b2 hR2 k2 => hQ e s2 μ2 a2 w2 h2 (b2.trans b1) hR2 (k1.trans (by rw [b1] at k2; exact k2)))
      | exit k => exact hQ (.exit k) s1 μ1 a1 w1 h1 b1 hR1 k1
      | ret => exact hQ .ret s1 μ1 a1 w1 h1 b1 hR1 k1
  intro X μ a w hR Q hQ
  exact wp_loop_rounds (m i + 1) (key (m i + 1) i s h0 (by omega) X μ a w hR Q hQ)

/-! ### Another view of the same state -/
def View (s s' : St) : Prop := s'.base = s.base ∧ ∀ (X : Nat → Prop) μ a w, RelS X μ s a w → ∃ μ', RelS X μ' s' a w ∧ Keep s.base μ s.heap w μ' s'.heap w

theorem View.refl (s : St) : View s s := ⟨rfl, fun X μ a w h => ⟨μ, h, Keep.refl h.base⟩⟩
theorem View.trans {s1 s2 s3 : St} (h : View s1 s2) (k : View s2 s3) : View s1 s3 :=
  ⟨k.1.trans h.1, fun X μ a w hr => by
    obtain ⟨μ1, r1, k1⟩ := h.2 X μ a w hr
    obtain ⟨μ2, r2, k2⟩ := k.2 X μ1 a w r1
    rw [h.1] at k2
    exact ⟨μ2, r2, k1.trans k2⟩⟩
theorem View.re (s : St) (hs : List Hint) (cs : List Prop) : View s { s with hints := hs, cond := cs } := ⟨rfl, fun X μ a w h => ⟨μ, h.re hs cs, Keep.refl h.base⟩⟩
theorem Tr.view {s' : St} {c : Code} (v : View s s') (h : Tr P c s' R) : Tr P c s R := by
  intro X μ a w hR Q hQ
  obtain ⟨μ1, r1, k1⟩ := v.2 X μ a w hR
  refine h X μ1 a w r1 Q (fun e s2 μ2 a2 w2 h2 b2 hR2 k2 => hQ e s2 μ2 a2 w2 h2 (b2.trans v.1) hR2 ?_)
  rw [v.1] at k2
  exact k1.trans k2
theorem Tr.post {c : Code} (h : Tr P c s R1) (hv : ∀ e s1, R1 e s1 → ∃ s2, View s1 s2 ∧ R e s2) : Tr P c s R := by
  intro X μ a w hR Q hQ
  refine h X μ a w hR Q (fun e s1 μ1 a1 w1 h1 b1 hR1 k1 => ?_)
  obtain ⟨s2, v, h2⟩ := hv e s1 h1
  obtain ⟨μ2, r2, k2⟩ := v.2 _ μ1 a1 w1 hR1
  rw [b1] at k2
  exact hQ e s2 μ2 a1 w1 h2 (v.1.trans b1) r2 (k1.trans k2)

theorem maskT_length (ks : List Tmp) : ∀ (n : Nat) (l : List AV), (maskT ks n l).length = l.length
  | _, [] => rfl
  | n, x :: l => by simp [maskT, maskT_length ks (n + 1) l]
theorem View.mask (ks : List Tmp) (s : St) : View s { s with tmps := maskT ks 0 s.tmps } := by
  refine ⟨rfl, fun X μ a w h => ⟨μ, ⟨⟨h.ctx.rel, fun t => ?_⟩, by rw [maskT_length]; exact h.size, h.dfr, h.base⟩, Keep.refl h.base⟩⟩
  rw [maskT_get]
  split
  · exact h.ctx.tmps t
  · exact .junk
theorem View.kill (ks : List Nat) (s : St) : View s { s with tmps := (killAll (s.tmps, s.heap) ks).1, heap := (killAll (s.tmps, s.heap) ks).2 } := by
  refine ⟨rfl, fun X μ a w h => ⟨μ, ?_⟩⟩
  obtain ⟨g1, g2, g3, g4, g5, g6, g7, g8⟩ := killAll_spec ks (ts := s.tmps) h.ctx.rel
  generalize killAll (s.tmps, s.heap) ks = Y at *
  exact ⟨⟨⟨g1, fun t => g3 t _ (h.ctx.tmps t)⟩, by rw [g4]; exact h.size, h.dfr, by rw [g5]; exact h.base⟩, g2.mono h.base⟩

theorem take_ok {X : Nat → Prop} {μ : Nat → Value} {H : AHeap} {w : World} {N : Nat} (hR : Rel X μ H w) (hN : N ≤ H.length) (hc : ((H.take N).all (refsInB fun b => decide (b < N))) = true) :
    Rel X μ (H.take N) w ∧ (∀ k, Taken μ (H.take N) k → Taken μ H k) ∧ ∀ x v, refsIn (fun b => decide (b < N)) x = true → Rep μ H w (Fz X μ H w) x v → Rep μ (H.take N) w (Fz X μ (H.take N) w) x v := by
  simp only [List.all_eq_true] at hc
  have hlen : (H.take N).length = N := by simp; omega
  have hget : ∀ b B, getH (H.take N) b = some B → b < N ∧ getH H b = some B := by
    intro b B h
    have hb := getH_lt h
    rw [hlen] at hb
    rw [getH_eq, List.getElem?_take, if_pos hb, ← getH_eq] at h
    exact ⟨hb, h⟩
  have hleft : Left (H.take N) H := ⟨by rw [hlen]; exact hN, fun b B h => (hget b B h).2⟩
  have htk : ∀ k, Taken μ (H.take N) k → Taken μ H k := fun k ⟨b, B, h, e⟩ => ⟨b, B, (hget b B h).2, e⟩
  have hfz : ∀ k, Fz X μ H w k → Fz X μ (H.take N) w k := fun k hk => ⟨hk.1, hk.2.1, fun ht => hk.2.2 (htk k ht)⟩
  have hd := hR.drop hleft (fun b ty cells h => by
    rw [hlen]
    have hm : some (Blk.var ty cells) ∈ H.take N := by
      rw [getH_eq] at h
      cases hh : (H.take N)[b]? with
      | none => rw [hh] at h; cases h
      | some q => rw [hh] at h; simp only [Option.join_some] at h; subst h; exact List.mem_of_getElem? hh
    exact hc _ hm)
  refine ⟨⟨hR.xlt, fun b B k h e => hR.notX b B k (hget b B h).2 e, hd.dis, fun b B h => ?_⟩, htk, fun x v hx hr => ?_⟩
  · have hok : ∀ k, Fz (aside X μ (H.take N) H) μ (H.take N) w k → Fz X μ (H.take N) w k := fun k hk => hfz k ((aside_fz hleft k).1 hk)
    have hB := hd.blk b B h
    cases B with
    | var ty cells =>
      obtain ⟨g, cur, e1, e2, e3, e4⟩ := hB
      exact ⟨g, cur, e1, e2, e3, fun i x hx => ⟨(e4 i x hx).1.okIff hok, (e4 i x hx).2⟩⟩
    | row ty sz els =>
      obtain ⟨e1, e2, vals, e3, e4⟩ := hB
      exact ⟨e1, e2, vals, e3, fun i j x f hx hf => (e4 i j x f hx hf).okIff hok⟩
    | obj o => exact BRep.objMove hB rfl (fun _ _ => rfl)
  · refine (hr.drop hleft (fun b B hb => (hR.blk b B hb).one) ?_).okIff hfz
    rw [hlen]
    exact hx

/-- The first N blocks alone. -/
theorem View.take {N : Nat} (h1 : s.base ≤ N) (h2 : N ≤ s.heap.length) (h3 : refsInL (fun b => decide (b < N)) s.tmps = true) (h4 : ((s.heap.take N).all (refsInB fun b => decide (b < N))) = true) : View s { s with heap := s.heap.take N } := by
  refine ⟨rfl, fun X μ a w h => ⟨μ, ?_⟩⟩
  obtain ⟨g1, g2, g3⟩ := take_ok h.ctx.rel h2 h4
  have hlen : (s.heap.take N).length = N := by simp; omega
  have hget : ∀ b B, getH (s.heap.take N) b = some B → b < N ∧ getH s.heap b = some B := by
    intro b B h
    have hb := getH_lt h
    rw [hlen] at hb
    rw [getH_eq, List.getElem?_take, if_pos hb, ← getH_eq] at h
    exact ⟨hb, h⟩
  refine ⟨⟨⟨g1, fun t => g3 _ _ ?_ (h.ctx.tmps t)⟩, h.size, h.dfr, by simp only [hlen]; exact h1⟩, ⟨Nat.le_refl _, rfl, TapeOK.refl _, rfl, fun _ _ _ => rfl, fun k hk hn ht => hn (g2 k ht), by simp only [hlen]; exact h1, fun b B' hb hB => ⟨rfl, B', (hget b B' hB).2, sameKind.refl _⟩⟩⟩
  rw [getT_eq]
  cases ht : s.tmps[t]? with
  | none => rfl
  | some x => exact (refsInL_iff _).1 h3 t x ht

/-- A state cut down to some temporaries and the first N blocks, some rows of them frozen. -/
def trimS (ks : List Tmp) (kills : List Nat) (N : Nat) (s : St) : Option St :=
  let x := killAll (maskT ks 0 s.tmps, s.heap) kills
  if s.base ≤ N then if N ≤ x.2.length then if refsInL (fun b => decide (b < N)) x.1 then if (x.2.take N).all (refsInB fun b => decide (b < N)) then
    some { tmps := x.1, heap := x.2.take N, base := s.base, hints := [], cond := [] } else none else none else none else none
theorem View.trim {ks : List Tmp} {kills : List Nat} {N : Nat} {s' : St} (h : trimS ks kills N s = some s') : View s s' := by
  unfold trimS at h
  simp only at h
  split at h
  · rename_i h1
    split at h
    · rename_i h2
      split at h
      · rename_i h3
        split at h
        · rename_i h4
          cases h
          exact (View.mask ks s).trans ((View.kill kills _).trans ((View.take (s := { s with tmps := (killAll (maskT ks 0 s.tmps, s.heap) kills).1, heap := (killAll (maskT ks 0 s.tmps, s.heap) kills).2 }) (N := N) h1 h2 h3 h4).trans (View.re _ [] [])))
        · cases h
      · cases h
    · cases h
  · cases h

/-- A row moved into a dead place. -/
def moveS (b n : Nat) (s : St) : Option St :=
  match getH s.heap n with
  | some (.row ty sz els) => if s.base ≤ b then if b < n then if (getH s.heap b).isNone then if refsInL (fun c => c != b) s.tmps then if s.heap.all (refsInB fun c => c != b) then
      some { s with tmps := subL n (.own b) s.tmps, heap := setH (subH n (.own b) (setH s.heap b (some (.row ty sz els)))) n none } else none else none else none else none else none
  | _ => none
theorem View.move {b n : Nat} {s s' : St} (h : moveS b n s = some s') : View s s' := by
  unfold moveS at h
  split at h
  · rename_i ty sz els hn
    split at h
    · rename_i hbase
      split at h
      · rename_i hbn
        split at h
        · rename_i hnone
          split at h
          · rename_i href
            split at h
            · rename_i hrefH
              cases h
              have hb : getH s.heap b = none := by simpa using hnone
              have hnl := getH_lt hn
              refine ⟨rfl, fun X μ a w hR => ⟨upd μ b (μ n), ?_⟩⟩
              have hrel := hR.ctx.rel
              -- the heaps
              have hget : ∀ c B', getH (setH (subH n (.own b) (setH s.heap b (some (.row ty sz els)))) n none) c = some B' → (c = b ∧ B' = .row ty sz els) ∨ (c ≠ b ∧ c ≠ n ∧ subB n (.own b) (getH s.heap c) = some B') := by
                intro c B' hc
                by_cases hcn : c = n
                · subst hcn
                  rw [getH_setH_self (by rw [subH_length, length_setH]; exact hnl)] at hc
                  cases hc
                · rw [getH_setH_ne hcn, subH_get] at hc
                  by_cases hcb : c = b
                  · subst hcb
                    rw [getH_setH_self (by omega)] at hc
                    simp only [subB, Option.some.injEq] at hc
                    exact .inl ⟨rfl, hc.symm⟩
                  · rw [getH_setH_ne hcb] at hc
                    exact .inr ⟨hcb, hcn, hc⟩
              have hself : getH (setH (subH n (.own b) (setH s.heap b (some (.row ty sz els)))) n none) b = some (.row ty sz els) := by
                rw [getH_setH_ne (by omega), subH_get, getH_setH_self (by omega)]
                rfl
              have htk : ∀ k, Taken (upd μ b (μ n)) (setH (subH n (.own b) (setH s.heap b (some (.row ty sz els)))) n none) k → Taken μ s.heap k := by
                rintro k ⟨c, B', hc, e⟩
                rcases hget c B' hc with ⟨rfl, _⟩ | ⟨hcb, hcn, hs⟩
                · rw [upd_self] at e
                  exact ⟨n, _, hn, e⟩
                · rw [upd_ne hcb] at e
                  obtain ⟨B, hB, _⟩ := subB_kind n (.own b) hs
                  exact ⟨c, B, hB, e⟩
              have hfz : ∀ k, Fz X μ s.heap w k → Fz X (upd μ b (μ n)) (setH (subH n (.own b) (setH s.heap b (some (.row ty sz els)))) n none) w k ∧ w.heap[k]? = w.heap[k]? := fun k hk => ⟨⟨hk.1, hk.2.1, fun ht => hk.2.2 (htk k ht)⟩, rfl⟩
              have hone : (μ n).oneCell' = true := (hrel.blk n _ hn).one
              have hrep : ∀ x v, refsIn (fun c => c != b) x = true → Rep μ s.heap w (Fz X μ s.heap w) x v → Rep (upd μ b (μ n)) (setH (subH n (.own b) (setH s.heap b (some (.row ty sz els)))) n none) w (Fz X (upd μ b (μ n)) (setH (subH n (.own b) (setH s.heap b (some (.row ty sz els)))) n none) w) (subA n (.own b) x) v := by
                intro x v hx hr
                induction hr with
                | fz h => exact .fz (h.move hfz)
                | agg hl _ h1 ih =>
                  simp only [refsIn] at hx
                  refine .agg (by rw [subL_length]; exact hl) (fun i y hy => ?_) h1
                  rw [subL_get] at hy
                  obtain ⟨z, hz, rfl⟩ := Option.map_eq_some_iff.1 hy
                  exact ih i z hz ((refsInL_iff _).1 hx i z hz)
                | own h hv h1 =>
                  rename_i c ty' sz' els' v'
                  simp only [refsIn, bne_iff_ne, ne_eq] at hx
                  simp only [subA]
                  split
                  · rename_i hcn
                    subst hcn
                    exact .own hself (by rw [upd_self]; exact hv) h1
                  · rename_i hcn
                    exact .own (by rw [getH_setH_ne hcn, subH_get, getH_setH_ne hx, h]; rfl) (by rw [upd_ne hx]; exact hv) h1
                | ob h hv h1 =>
                  rename_i c o v'
                  simp only [refsIn, bne_iff_ne, ne_eq] at hx
                  have hcn : c ≠ n := fun e => by subst e; rw [hn] at h; cases h
                  exact .ob (by rw [getH_setH_ne hcn, subH_get, getH_setH_ne hx, h]; rfl) (by rw [upd_ne hx]; exact hv) h1
                | vw h hm hc hA =>
                  rename_i c o m ty' sz' els' A cc
                  simp only [refsIn, bne_iff_ne, ne_eq] at hx
                  simp only [subA]
                  split
                  · exact .junk
                  · rename_i hcn
                    exact .vw (by rw [getH_setH_ne hcn, subH_get, getH_setH_ne hx, h]; rfl) hm hc (by rw [upd_ne hx]; exact hA)
                | ptr h hg =>
                  rename_i c o ty' cells g
                  simp only [refsIn, bne_iff_ne, ne_eq] at hx
                  have hcn : c ≠ n := fun e => by subst e; rw [hn] at h; cases h
                  exact .ptr (by rw [getH_setH_ne hcn, subH_get, getH_setH_ne hx, h]; rfl) (by rw [upd_ne hx]; exact hg)
                | ep h hi hg =>
                  rename_i c i j ty' sz' els' g
                  simp only [refsIn, bne_iff_ne, ne_eq] at hx
                  simp only [subA]
                  split
                  · exact .junk
                  · rename_i hcn
                    exact .ep (by rw [getH_setH_ne hcn, subH_get, getH_setH_ne hx, h]; rfl) hi (by rw [upd_ne hx]; exact hg)
                | fp U hok hcell hrep => exact .fp U (hfz _ hok).1 hcell (fun j f hf => (hrep j f hf).move hfz)
                | ifc _ ih => exact .ifc (ih (by simpa only [refsIn] using hx))
                | fn ha hc _ _ ih ih' =>
                  simp only [refsIn, Bool.and_eq_true] at hx
                  refine .fn (by rw [subL_length]; exact ha) (by rw [subL_length]; exact hc) (fun i y hy => ?_) (fun i y hy => ?_)
                  · rw [subL_get] at hy
                    obtain ⟨z, hz, rfl⟩ := Option.map_eq_some_iff.1 hy
                    exact ih i z hz ((refsInL_iff _).1 hx.1 i z hz)
                  · rw [subL_get] at hy
                    obtain ⟨z, hz, rfl⟩ := Option.map_eq_some_iff.1 hy
                    exact ih' i z hz ((refsInL_iff _).1 hx.2 i z hz)
                | tup hl _ ih =>
                  simp only [refsIn] at hx
                  refine .tup (by rw [subL_length]; exact hl) (fun i y hy => ?_)
                  rw [subL_get] at hy
                  obtain ⟨z, hz, rfl⟩ := Option.map_eq_some_iff.1 hy
                  exact ih i z hz ((refsInL_iff _).1 hx i z hz)
                | dead hx' hb' hd h1 =>
                  rename_i x v c
                  have hcn : c ≠ n := fun e => by subst e; rw [hn] at hd; cases hd
                  have hcb : c ≠ b := by cases x <;> simp [refOf] at hx' <;> subst hx' <;> simpa [refsIn] using hx
                  have hsub : subA n (.own b) x = x := by cases x <;> simp [refOf] at hx' <;> subst hx' <;> simp [subA, hcn]
                  rw [hsub]
                  exact .dead hx' (by rw [length_setH, subH_length, length_setH]; exact hb') (by rw [getH_setH_ne hcn, subH_get, getH_setH_ne hcb, hd]; rfl) h1
                | junk => exact .junk
              have hrb : ∀ c B, getH s.heap c = some B → refsInB (fun c => c != b) (some B) = true := by
                intro c B hc
                have hm : some B ∈ s.heap := by
                  rw [getH_eq] at hc
                  cases hh : s.heap[c]? with
                  | none => rw [hh] at hc; cases hc
                  | some q => rw [hh] at hc; simp only [Option.join_some] at hc; subst hc; exact List.mem_of_getElem? hh
                exact List.all_eq_true.1 hrefH _ hm
              refine ⟨⟨⟨⟨hrel.xlt, fun c B' k hc e => ?_, fun c c' B1 B2 k hc hc' e e' => ?_, fun c B' hc => ?_⟩, fun t => ?_⟩, by rw [subL_length]; exact hR.size, hR.dfr, by simp only [length_setH, subH_length]; exact hR.base⟩, ⟨Nat.le_refl _, rfl, TapeOK.refl _, rfl, fun _ _ _ => rfl, fun k hk hn' ht => hn' (htk k ht), by simp only [length_setH, subH_length]; exact hR.base, fun c B' hc hg => ?_⟩⟩
              · rcases hget c B' hc with ⟨rfl, _⟩ | ⟨hcb, hcn, hs⟩
                · rw [upd_self] at e; exact hrel.notX n _ k hn e
                · rw [upd_ne hcb] at e
                  obtain ⟨B, hB, _⟩ := subB_kind n (.own b) hs
                  exact hrel.notX c B k hB e
              · rcases hget c B1 hc with ⟨rfl, _⟩ | ⟨hcb, hcn, hs⟩ <;> rcases hget c' B2 hc' with ⟨rfl, _⟩ | ⟨hcb', hcn', hs'⟩
                · rfl
                · rw [upd_self] at e
                  rw [upd_ne hcb'] at e'
                  obtain ⟨B, hB, _⟩ := subB_kind n (.own c) hs'
                  exact absurd (hrel.dis c' n _ _ k hB hn e' e) hcn'
                · rw [upd_self] at e'
                  rw [upd_ne hcb] at e
                  obtain ⟨B, hB, _⟩ := subB_kind n (.own c') hs
                  exact absurd (hrel.dis c n _ _ k hB hn e e') hcn
                · rw [upd_ne hcb] at e
                  rw [upd_ne hcb'] at e'
                  obtain ⟨B, hB, _⟩ := subB_kind n (.own b) hs
                  obtain ⟨B', hB', _⟩ := subB_kind n (.own b) hs'
                  exact hrel.dis c c' _ _ k hB hB' e e'
              · rcases hget c B' hc with ⟨rfl, rfl⟩ | ⟨hcb, hcn, hs⟩
                · obtain ⟨q1, q2, vals, q3, q4⟩ := hrel.blk n _ hn
                  exact ⟨q1, q2, vals, by rw [upd_self]; exact q3, fun i j x f hx hf => (q4 i j x f hx hf).move hfz⟩
                · cases hB : getH s.heap c with
                  | none => rw [hB] at hs; cases hs
                  | some B =>
                    rw [hB] at hs
                    have hBR := hrel.blk c B hB
                    cases B with
                    | var cty cells =>
                      simp only [subB, Option.some.injEq] at hs
                      subst hs
                      obtain ⟨g, cur, e1, e2, e3, e4⟩ := hBR
                      refine ⟨g, cur, by rw [upd_ne hcb]; exact e1, e2, by rw [subL_length]; exact e3, fun i y hy => ?_⟩
                      rw [subL_get] at hy
                      obtain ⟨z, hz, rfl⟩ := Option.map_eq_some_iff.1 hy
                      exact ⟨hrep z _ ((refsInL_iff _).1 (hrb c _ hB) i z hz) (e4 i z hz).1, (e4 i z hz).2⟩
                    | row cty csz cels =>
                      simp only [subB, Option.some.injEq] at hs
                      subst hs
                      obtain ⟨q1, q2, vals, q3, q4⟩ := hBR
                      exact ⟨q1, q2, vals, by rw [upd_ne hcb]; exact q3, fun i j x f hx hf => (q4 i j x f hx hf).move hfz⟩
                    | obj o =>
                      simp only [subB, Option.some.injEq] at hs
                      subst hs
                      exact BRep.objMove hBR (upd_ne hcb) (fun _ _ => rfl)
              · simp only [subL_getT]
                refine hrep _ _ ?_ (hR.ctx.tmps t)
                rw [getT_eq]
                cases ht : s.tmps[t]? with
                | none => rfl
                | some x => exact (refsInL_iff _).1 href t x ht
              · have hcl : c < s.base := hc
                rcases hget c B' hg with ⟨rfl, _⟩ | ⟨hcb, hcn, hs⟩
                · omega
                · exact ⟨upd_ne hcb, subB_kind n (.own b) hs⟩
            · cases h
          · cases h
        · cases h
      · cases h
    · cases h
  · cases h

/-- A run, and the state behind it cut down. -/
def runTo (P : Program) (T : Tab) (call : CallF) (n : Nat) (c : Code) (s : St) (hs : List Hint) (ks : List Tmp) (kills : List Nat) (N : Nat) : Option (AExit × List AV × AHeap × List Prop) :=
  match aexec P T call n c { s with hints := hs, cond := [] } with
  | some (e, s') => match trimS ks kills N s' with
    | some y => some (e, y.tmps, y.heap, s'.cond)
    | none => none
  | none => none
def stOf (ts : List AV) (H : AHeap) (base : Nat) : St := { tmps := ts, heap := H, base, hints := [], cond := [] }
theorem Tr.runTo (hT : TabOK P T) (hcall : CallOK P call) (hm : P.follows .mixedOrders = true) {n : Nat} {c : Code} {hs : List Hint} {ks : List Tmp} {kills : List Nat} {N : Nat} {e : AExit} {ts : List AV} {H : AHeap} {cs : List Prop}
    (h : Ai.runTo P T call n c s hs ks kills N = some (e, ts, H, cs)) (hc : All cs) (hR : R e (stOf ts H s.base)) : Tr P c s R := by
  unfold Ai.runTo at h
  split at h
  · rename_i e' s' h1
    split at h
    · rename_i y h2
      simp only [Option.some.injEq, Prod.mk.injEq] at h
      obtain ⟨rfl, rfl, rfl, rfl⟩ := h
      obtain ⟨_, hb, _⟩ := aexec_ok hT hcall (draw_ok hT hcall hm) n c _ e' s' h1 hc
      refine Tr.post (R1 := fun e s1 => e = e' ∧ s1 = s') (Tr.run hT hcall hm h1 hc ⟨rfl, rfl⟩) (fun e s1 h => ?_)
      obtain ⟨rfl, rfl⟩ := h
      have hy : y = stOf y.tmps y.heap s.base := by
        have hv := (View.trim h2).1
        unfold trimS at h2
        simp only at h2
        split at h2
        · split at h2
          · split at h2
            · split at h2
              · cases h2
                simp only at hv
                simp only [stOf]
                rw [← hb]
              · cases h2
            · cases h2
          · cases h2
        · cases h2
      exact ⟨y, View.trim h2, by rw [hy]; exact hR⟩
    · cases h
  · cases h

/-! ### Functions -/
def startSt (fn : Func) (args : List AV) (H : AHeap) (base : Nat) : St := { tmps := args ++ List.replicate (fn.ntmps - args.length) .junk, heap := H, base, hints := [], cond := [] }

def FunTr (P : Program) (f : FuncId) (args : List AV) (H : AHeap) (base : Nat) (R : AV → AHeap → Prop) : Prop := ∀ (X : Nat → Prop) (μ : Nat → Value) (w : World) (vs : Array Value), Rel X μ H w → vs.size = args.length →
  (∀ (i : Nat) (x : AV), args[i]? = some x → Rep μ H w (Fz X μ H w) x (vs.getD i undef)) →
  Calls P f vs w (onReturn fun v w' => ∃ r H' μ', R r H' ∧ Rel X μ' H' w' ∧ Keep base μ H w μ' H' w' ∧ Rep μ' H' w' (Fz X μ' H' w') r v)

def retPost (P : Program) (fn : Func) (R : AV → AHeap → Prop) : AExit → St → Prop
  | .exit _, _ => False
  | _, s => ∃ r, retOf P fn s = some r ∧ R r s.heap

theorem fun_of_tr {f : FuncId} {fn : Func} {c : Code} {args : List AV} {H : AHeap} {base : Nat} {R : AV → AHeap → Prop} (hfn : P.funcs[f]? = some fn) (hbody : fn.body = some c) (hbase : base ≤ H.length)
    (h : Tr P c (startSt fn args H base) (retPost P fn R)) : FunTr P f args H base R := by
  intro X μ w vs hR hsz hargs
  have hstart : RelS X μ (startSt fn args H base) { tmps := vs ++ Array.replicate (fn.ntmps - vs.size) undef, defers := [] } w := by
    refine ⟨⟨hR, fun t => ?_⟩, by simp [startSt, hsz], rfl, hbase⟩
    simp only [startSt, getT_append_junk]
    rcases Nat.lt_or_ge t args.length with ht | ht
    · have h1 := hargs t args[t] (List.getElem?_eq_getElem ht)
      have e1 : getT args t = args[t] := by rw [getT_eq, List.getElem?_eq_getElem ht]; rfl
      have e2 : (vs ++ Array.replicate (fn.ntmps - vs.size) undef).getD t undef = vs.getD t undef := by
        rw [Array.getD_eq_getD_getElem?, Array.getD_eq_getD_getElem?, Array.getElem?_append_left (by omega)]
      rw [e1, e2]
      exact h1
    · rw [getT_oob ht]
      exact .junk
  refine calls_of_wp hfn hbody (h X μ _ w hstart _ (fun e s' μ' a' w' hp hb hR' hK => ?_))
  have fin : (∃ r, retOf P fn s' = some r ∧ R r s'.heap) → a'.defers = [] ∧ ∃ v, (results fn a'.tmps).run P w' = .ok v w' ∧ (onReturn fun v w' => ∃ r H' μ', R r H' ∧ Rel X μ' H' w' ∧ Keep base μ H w μ' H' w' ∧ Rep μ' H' w' (Fz X μ' H' w') r v) (.returned v) w' := by
    rintro ⟨r, h1, h2⟩
    obtain ⟨v, h3, h4⟩ := retOf_ok (P := P) hR' h1
    exact ⟨hR'.dfr, v, h3, r, s'.heap, μ', h2, hR'.ctx.rel, hK, h4⟩
  cases e with
  | normal => exact fin hp
  | exit i => exact hp.elim
  | ret => exact fin hp

theorem FunTr.mono {f : FuncId} {args : List AV} {H : AHeap} {base : Nat} {R R' : AV → AHeap → Prop} (h : FunTr P f args H base R) (hR : ∀ r H', R r H' → R' r H') : FunTr P f args H base R' :=
  fun X μ w vs a b c => (h X μ w vs a b c).mono (fun e w' he => by
    cases e with
    | returned v => obtain ⟨r, H', μ', h1, h2⟩ := he; exact ⟨r, H', μ', hR r H' h1, h2⟩
    | panicked c => exact he
    | outgrown => exact he)

/-- What HeapOK asks of one call. -/
def HeapAt (P : Program) (f : FuncId) (args : List AV) (H : AHeap) (r : AV) (H' : AHeap) : Prop := ∀ (X : Nat → Prop) (μ : Nat → Value) (w : World) (vs : Array Value), Rel X μ H w → vs.size = args.length →
  (∀ (i : Nat) (x : AV), args[i]? = some x → Rep μ H w (Fz X μ H w) x (vs.getD i undef)) →
  Calls P f vs w (onReturn fun v w' => ∃ μ', Rel X μ' H' w' ∧ Keep H.length μ H w μ' H' w' ∧ Rep μ' H' w' (Fz X μ' H' w') r v)
theorem heapAt_of_fun {f : FuncId} {args : List AV} {H : AHeap} {r : AV} {H' : AHeap} (h : FunTr P f args H H.length (fun r1 H1 => trimR H.length r1 H1 = (r, H'))) : HeapAt P f args H r H' := by
  intro X μ w vs hR hsz hargs
  refine (h X μ w vs hR hsz hargs).mono (fun e w' he => ?_)
  cases e with
  | returned v =>
    obtain ⟨r1, H1, μ', h1, h2, h3, h4⟩ := he
    obtain ⟨t1, t2, t3⟩ := trim_ok rfl h2 h3 h4
    rw [h1] at t1 t2 t3
    exact ⟨μ', t1, t2, t3⟩
  | panicked c => exact he
  | outgrown => exact he

/-- A row made of frozen data. -/
theorem heapAt_push {f : FuncId} {args : List AV} {H : AHeap} {ty sz : Nat} {els : List (List FV)} (hx : snapL H args = some args) (hr : rowsOfL args = []) (h : FunTr P f args [] 0 (fun r H1 => ∃ b, r = .own b ∧ getH H1 b = some (.row ty sz els))) :
    HeapAt P f args H (.own H.length) (H ++ [some (.row ty sz els)]) := by
  intro X μ w vs hR hsz hargs
  have ha := args_frozen hR hx hargs noVals
  rw [hr] at ha
  refine (h (shut X μ H []) noVals w vs (hR.shutNil [] noVals) hsz (fun i x hx => (ha i x hx).okIff (fun k hk => ⟨hk.1, hk.2, nil_taken⟩))).mono (fun e w' he => ?_)
  cases e with
  | returned v =>
    obtain ⟨r1, H1, μ', ⟨b0, rfl, hb0⟩, h1, h2, h3⟩ := he
    have hv : v = μ' b0 := by
      cases h3 with
      | own _ hv _ => exact hv
      | dead hx _ hn _ => simp [refOf] at hx; subst hx; rw [hb0] at hn; cases hn
    subst hv
    have e := keep_ext h2
    have hu : ∀ k, blkOf (μ' b0) = some k → w.heap.size ≤ k := fun k hk => by
      rcases Nat.lt_or_ge k w.heap.size with hlt | hge
      · exact absurd ⟨b0, _, hb0, hk⟩ (h2.free k hlt nil_taken)
      · exact hge
    have hok : ∀ k, Fz (shut X μ H []) μ' H1 w' k → Fz X (upd μ H.length (μ' b0)) (H ++ [some (.row ty sz els)]) w' k := by
      intro k hk
      refine ⟨hk.1, fun hX => hk.2.1 (.inl hX), ?_⟩
      rintro ⟨c, B', hc', e'⟩
      rcases getH_push hc' with ⟨hlt, hc''⟩ | ⟨rfl, _⟩
      · rw [upd_ne (by omega)] at e'
        exact hk.2.1 (.inr ⟨c, B', hc'', e', by simp⟩)
      · rw [upd_self] at e'
        exact hk.2.2 ⟨b0, _, hb0, e'⟩
    have hB : BRep (upd μ H.length (μ' b0)) (H ++ [some (.row ty sz els)]) w' (Fz X (upd μ H.length (μ' b0)) (H ++ [some (.row ty sz els)]) w') H.length (.row ty sz els) := by
      obtain ⟨q1, q2, vals, q3, q4⟩ := h1.blk b0 _ hb0
      exact ⟨q1, q2, vals, by rw [upd_self]; exact q3, fun i j x f hx hf => (q4 i j x f hx hf).okIff hok⟩
    obtain ⟨p1, p2⟩ := hR.push e.size e.os e.tape e.output e.heap hu hB
    have hone : (μ' b0).oneCell' = true := (h1.blk b0 _ hb0).one
    exact ⟨_, p1, p2, .own (getH_last _ _) (by rw [upd_self]) hone⟩
  | panicked c => exact he
  | outgrown => exact he
theorem FunTr.args {f : FuncId} {as bs : List AV} {base : Nat} {H : AHeap} {R : AV → AHeap → Prop} (h : FunTr P f bs H base R) (hl : as.length = bs.length) {X : Nat → Prop} {μ : Nat → Value} {w : World} {vs : Array Value} (hR : Rel X μ H w) (hsz : vs.size = as.length)
    (hb : ∀ (i : Nat) (y : AV), bs[i]? = some y → Rep μ H w (Fz X μ H w) y (vs.getD i undef)) : Calls P f vs w (onReturn fun v w' => ∃ r H' μ', R r H' ∧ Rel X μ' H' w' ∧ Keep base μ H w μ' H' w' ∧ Rep μ' H' w' (Fz X μ' H' w') r v) :=
  h X μ w vs hR (by omega) hb
/-- A slice that was met: by what it is. -/
theorem FunTr.bySlice {f : FuncId} {sz : Nat} {xs : List (List FV)} {base : Nat} {H : AHeap} {R : AV → AHeap → Prop} (h0 : ∀ A c, xs = [] → FunTr P f [.fz (.sc (.slice A 0 c))] H base R) (h1 : xs ≠ [] → FunTr P f [.fz (.sl sz xs)] H base R) : FunTr P f [.fz (.sl sz xs)] H base R := by
  intro X μ w vs hR hsz hargs
  by_cases hx : xs = []
  · subst hx
    have h := hargs 0 _ rfl
    generalize hv : vs.getD 0 undef = v at h
    cases h with
    | fz hf =>
      have key : ∀ A c, v = .slice A 0 c → Calls P f vs w (onReturn fun v w' => ∃ r H' μ', R r H' ∧ Rel X μ' H' w' ∧ Keep base μ H w μ' H' w' ∧ Rep μ' H' w' (Fz X μ' H' w') r v) := fun A c e => by
        refine h0 A c rfl X μ w vs hR hsz (fun i y hy => ?_)
        match i with
        | 0 => simp at hy; subst hy; rw [hv, e]; exact rep_sc rfl
        | i + 1 => simp at hy
      cases hf with
      | nil => exact key _ _ rfl
      | sl => exact key _ _ rfl
    | dead hx' => simp [refOf] at hx'
  · exact h1 hx X μ w vs hR hsz hargs

/-- What PureOK asks of one call. -/
def PureAt (P : Program) (f : FuncId) (as : List AV) (r : AV) (fresh : Bool) : Prop := ∀ (ok : Nat → Prop) (w : World) (vs : Array Value), (∀ k, ok k → k < w.heap.size) → vs.size = as.length →
  (∀ (i : Nat) (x : AV), as[i]? = some x → Rep noVals [] w ok x (vs.getD i undef)) →
  Calls P f vs w (onReturn fun v w' => Ext w w' ∧ Rep noVals [] w' (fun k => k < w'.heap.size ∧ (w.heap.size ≤ k ∨ (fresh = false ∧ ok k))) r v)
theorem pureAt_of_fun {f : FuncId} {as : List AV} {r : AV} (h : FunTr P f as [] 0 (fun r1 H1 => snapR H1 r1 = some r)) : PureAt P f as r false := by
  intro ok w vs hok hsz hargs
  let X : Nat → Prop := fun k => k < w.heap.size ∧ ¬ ok k
  have hR : Rel X noVals [] w := ⟨fun k hk => hk.1, fun b B k h => by cases b <;> simp [getH] at h, fun b b' B B' k h => by cases b <;> simp [getH] at h, fun b B h => by cases b <;> simp [getH] at h⟩
  refine (h X noVals w vs hR hsz (fun i x hx => (hargs i x hx).okIff (fun k hk => ⟨hok k hk, fun h => h.2 hk, nil_taken⟩))).mono (fun e w' he => ?_)
  cases e with
  | returned v =>
    obtain ⟨r1, H1, μ', h1, h2, h3, h4⟩ := he
    have hfz : ∀ k, k < w'.heap.size → ¬ X k → k < w'.heap.size ∧ (w.heap.size ≤ k ∨ (false = false ∧ ok k)) := by
      intro k h1 h2
      refine ⟨h1, ?_⟩
      rcases Nat.lt_or_ge k w.heap.size with hlt | hge
      · by_cases hk : ok k
        · exact .inr ⟨rfl, hk⟩
        · exact absurd ⟨hlt, hk⟩ h2
      · exact .inl hge
    exact ⟨keep_ext h3, snapR_ok h2 (fun k hk => hfz k hk.1 hk.2.1) h4 h1 (fun b B hb k hk => hfz k (h2.lt hb hk) (h2.notX b B k hb hk))⟩
  | panicked c => exact he
  | outgrown => exact he
/-- A map made. -/
theorem pureAt_of_map {f : FuncId} {as : List AV} {es : Array MapEntry} {c : Nat} (h : FunTr P f as [] 0 (fun r1 H1 => ∃ b, r1 = .ob b ∧ getH H1 b = some (.obj (.map es c)))) : PureAt P f as (.fz (.mp es c)) true := by
  intro ok w vs hok hsz hargs
  let X : Nat → Prop := fun k => k < w.heap.size ∧ ¬ ok k
  have hR : Rel X noVals [] w := ⟨fun k hk => hk.1, fun b B k h => by cases b <;> simp [getH] at h, fun b b' B B' k h => by cases b <;> simp [getH] at h, fun b B h => by cases b <;> simp [getH] at h⟩
  refine (h X noVals w vs hR hsz (fun i x hx => (hargs i x hx).okIff (fun k hk => ⟨hok k hk, fun h => h.2 hk, nil_taken⟩))).mono (fun e w' he => ?_)
  cases e with
  | returned v =>
    obtain ⟨r1, H1, μ', ⟨b, rfl, hb⟩, h2, h3, h4⟩ := he
    refine ⟨keep_ext h3, ?_⟩
    obtain ⟨g, e, hg⟩ := h2.blk b _ hb
    have e : μ' b = .map (some g) := e
    cases h4 with
    | ob _ hv _ =>
      rw [hv, e]
      refine .fz (.mp ⟨(Array.getElem?_eq_some_iff.1 hg).1, .inl ?_⟩ hg)
      rcases Nat.lt_or_ge g w.heap.size with hlt | hge
      · exact absurd ⟨b, _, hb, by rw [e]; rfl⟩ (h3.free g hlt nil_taken)
      · exact hge
    | dead hx _ hn _ => simp [refOf] at hx; subst hx; rw [hb] at hn; cases hn
  | panicked c => exact he
  | outgrown => exact he
theorem PureAt.scalarA {f : FuncId} {as : List AV} {r : AV} (hr : scalarA r = true) (h : PureAt P f as r false) : PureAt P f as r true := by
  intro ok w vs hok hsz hargs
  refine (h ok w vs hok hsz hargs).mono (fun e w' he => ?_)
  cases e with
  | returned u => exact ⟨he.1, scalar_rep he.2 hr⟩
  | panicked c => exact he
  | outgrown => exact he
/-- .. the arguments told otherwise. -/
theorem PureAt.args {f : FuncId} {as bs : List AV} {r : AV} {fresh : Bool} (h : PureAt P f bs r fresh) (hl : as.length = bs.length) (hab : ∀ (i : Nat) (x y : AV), as[i]? = some x → bs[i]? = some y → ∀ (ok : Nat → Prop) (w : World) (v : Value), Rep noVals [] w ok x v → Rep noVals [] w ok y v) : PureAt P f as r fresh := by
  intro ok w vs hok hsz hargs
  refine h ok w vs hok (by omega) (fun i y hy => ?_)
  have hi : i < as.length := by have := (List.getElem?_eq_some_iff.1 hy).1; omega
  exact hab i _ y (List.getElem?_eq_getElem hi) hy ok w _ (hargs i _ (List.getElem?_eq_getElem hi))
theorem PureAt.res {f : FuncId} {as : List AV} {r r' : AV} {fresh : Bool} (h : PureAt P f as r fresh) (hab : ∀ (ok : Nat → Prop) (w : World) (v : Value), Rep noVals [] w ok r v → Rep noVals [] w ok r' v) : PureAt P f as r' fresh := by
  intro ok w vs hok hsz hargs
  refine (h ok w vs hok hsz hargs).mono (fun e w' he => ?_)
  cases e with
  | returned u => exact ⟨he.1, hab _ _ _ he.2⟩
  | panicked c => exact he
  | outgrown => exact he
theorem PureAt.scalar {f : FuncId} {as : List AV} {v : Value} (h : PureAt P f as (.sc v) false) : PureAt P f as (.sc v) true := by
  intro ok w vs hok hsz hargs
  refine (h ok w vs hok hsz hargs).mono (fun e w' he => ?_)
  cases e with
  | returned u => exact ⟨he.1, scalar_rep he.2 rfl⟩
  | panicked c => exact he
  | outgrown => exact he
end
/-! ### Code in parts -/
def pre : Nat → Code → Code
  | n + 1, .seq a b => .seq a (pre n b)
  | _, _ => .skip
def post : Nat → Code → Code
  | n + 1, .seq a b => post n b
  | _, c => c
def cl : Code → Code
  | .seq a _ => a
  | c => c
def cr : Code → Code
  | .seq _ b => b
  | c => c
def cb : Code → Code
  | .block _ c => c
  | .loop c => c
  | c => c
def ct : Code → Code
  | .cond _ x _ => x
  | c => c
def ce : Code → Code
  | .cond _ _ y => y
  | c => c
def bodyOf (f : Func) : Code := f.body.getD .skip

section
variable {P : Program} {T : Tab} {call : CallF} {s : St} {R R1 : AExit → St → Prop}

theorem Tr.run' (hT : TabOK P T) (hcall : CallOK P call) (hm : P.follows .mixedOrders = true) {n : Nat} {c : Code} {e : AExit} {s' : St} (h : aexec P T call n c s = some (e, s')) (hc : All s'.cond) (hR : R e s') : Tr P c s R := by
  intro X μ a w hrel Q hQ
  obtain ⟨_, hb, m, hrun⟩ := aexec_ok hT hcall (draw_ok hT hcall hm) n c _ e s' h hc
  exact (hrun X μ a w hrel Q (fun μ' a' w' h1 h2 => hQ e s' μ' a' w' hR hb h1 h2)).wp

theorem pre_go (hT : TabOK P T) (hcall : CallOK P call) (hm : P.follows .mixedOrders = true) {s1 : St} (hc : All s1.cond) : ∀ (n k : Nat) (c : Code) (s : St), aexec P T call k (pre n c) s = some (.normal, s1) → s1.base = s.base ∧ (Tr P (post n c) s1 R → Tr P c s R)
  | 0, k, c, s, h => by
    have hp : pre 0 c = .skip := by cases c <;> rfl
    have hq : post 0 c = c := by cases c <;> rfl
    rw [hp] at h
    rw [hq]
    cases k with
    | zero => cases h
    | succ k => simp [aexec] at h; subst h; exact ⟨rfl, fun ht => ht⟩
  | n + 1, k, c, s, h => by
    by_cases hseq : ∃ a b, c = .seq a b
    · obtain ⟨x, y, rfl⟩ := hseq
      simp only [pre] at h
      simp only [post]
      cases k with
      | zero => cases h
      | succ k =>
        simp only [aexec] at h
        split at h
        · rename_i s2 h2
          have hh := aexec_ok hT hcall (draw_ok hT hcall hm) k _ _ _ _ h hc
          obtain ⟨g1, g2⟩ := pre_go hT hcall hm hc n k y s2 h
          have hb := (aexec_ok hT hcall (draw_ok hT hcall hm) k _ _ _ _ h2 hh.1).2.1
          refine ⟨g1.trans hb, fun ht => ?_⟩
          refine Tr.seq (R1 := fun e t => e = .normal ∧ t = s2) (Tr.run' hT hcall hm h2 hh.1 ⟨rfl, rfl⟩) (fun t h _ => ?_) (fun e t he h => absurd h.1 he)
          rw [h.2]
          exact g2 ht
        · cases h
        · cases h
        · cases h
    · have hp : pre (n + 1) c = .skip := by
        cases c <;> first | rfl | exact absurd ⟨_, _, rfl⟩ hseq
      have hq : post (n + 1) c = c := by
        cases c <;> first | rfl | exact absurd ⟨_, _, rfl⟩ hseq
      rw [hp] at h
      rw [hq]
      cases k with
      | zero => cases h
      | succ k => simp [aexec] at h; subst h; exact ⟨rfl, fun ht => ht⟩

/-- The first n parts by a run, cut down behind it; the rest by its own. -/
theorem Tr.pre (hT : TabOK P T) (hcall : CallOK P call) (hm : P.follows .mixedOrders = true) (n : Nat) {k : Nat} {c : Code} {hs : List Hint} {ks : List Tmp} {kills : List Nat} {N : Nat} {ts : List AV} {H : AHeap} {cs : List Prop}
    (h : Ai.runTo P T call k (Ai.pre n c) s hs ks kills N = some (.normal, ts, H, cs)) (hc : All cs) (hR : Tr P (Ai.post n c) (stOf ts H s.base) R) : Tr P c s R := by
  unfold Ai.runTo at h
  split at h
  · rename_i e' s' h1
    split at h
    · rename_i y h2
      simp only [Option.some.injEq, Prod.mk.injEq] at h
      obtain ⟨rfl, rfl, rfl, rfl⟩ := h
      have hgo := pre_go (R := R) hT hcall hm hc n k c _ h1
      have hb : s'.base = s.base := hgo.1
      refine Tr.view (View.re s hs []) (hgo.2 (Tr.view (View.trim h2) ?_))
      have hy : y = stOf y.tmps y.heap s.base := by
        unfold trimS at h2
        simp only at h2
        split at h2
        · split at h2
          · split at h2
            · split at h2
              · cases h2
                simp only [stOf, hb]
              · cases h2
            · cases h2
          · cases h2
        · cases h2
      rw [hy]
      exact hR
    · cases h
  · cases h

def roundPost {ι : Type} (I : ι → St → Prop) (m : ι → Nat) (i : ι) (id : Nat) (D : St → Prop) (R : AExit → St → Prop) : AExit → St → Prop
  | .normal, s => ∃ j, I j s ∧ m j < m i
  | .exit k, s => k = id ∧ D s
  | .ret, s => R .ret s
/-- A loop in its block, and what follows. -/
theorem Tr.loopAt {ι : Type} (I : ι → St → Prop) (m : ι → Nat) (D : St → Prop) {c B C : Code} {id : Nat} (hc : c = .seq (.block id (.loop B)) C) {i : ι} (h0 : I i s)
    (step : ∀ i s, I i s → Tr P B s (roundPost I m i id D R)) (rest : ∀ t, D t → t.base = s.base → Tr P C t R) : Tr P c s R := by
  subst hc
  refine Tr.seq (R1 := fun e t => match e with | .normal => D t | .exit _ => False | .ret => R .ret t) (Tr.block (Tr.loop I m (i := i) (fun i s hI => (step i s hI).mono (fun e t h => ?_)) h0)) (fun t h hb => rest t h hb) (fun e t he h => ?_)
  · cases e with
    | normal => exact h
    | exit k =>
      obtain ⟨rfl, hD⟩ := h
      simp only [loopPost, blkPost, if_true]
      exact hD
    | ret => exact h
  · cases e with
    | normal => exact absurd rfl he
    | exit k => exact h.elim
    | ret => exact h
/-- A range: its beginning, its loop in its block, and what follows. -/
theorem Tr.rangeAt {ι : Type} (I : ι → St → Prop) (m : ι → Nat) (D : St → Prop) {c A B C : Code} {id : Nat} (hc : c = .seq (.seq A (.block id (.loop B))) C) (hA : Tr P A s (fun e t => e = .normal ∧ ∃ i, I i t))
    (step : ∀ i s, I i s → Tr P B s (roundPost I m i id D R)) (rest : ∀ t, D t → t.base = s.base → Tr P C t R) : Tr P c s R := by
  subst hc
  refine Tr.seq (R1 := fun e t => match e with | .normal => D t | .exit _ => False | .ret => R .ret t) (Tr.seq hA (fun t h hb => ?_) (fun e t he h => absurd h.1 he)) (fun t h hb => rest t h hb) (fun e t he h => ?_)
  · obtain ⟨_, i, hi⟩ := h
    refine Tr.block (Tr.loop I m (i := i) (fun i s hI => (step i s hI).mono (fun e t h => ?_)) hi)
    cases e with
    | normal => exact h
    | exit k =>
      obtain ⟨rfl, hD⟩ := h
      simp only [loopPost, blkPost, if_true]
      exact hD
    | ret => exact h
  · cases e with
    | normal => exact absurd rfl he
    | exit k => exact h.elim
    | ret => exact h
end
end Go.Proofs.Ai
