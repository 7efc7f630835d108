/- The abstract machine, 19: regions of open order are sound. -/
import Derived.Test.YtfjjeijkbhcoaaaBiDraw3
set_option linter.unusedVariables false
set_option linter.unusedSimpArgs false
namespace Go.Proofs.Ai
open Go

section
variable {P : Program} {T : Tab} {call : CallF} {ops : Array Oper}

theorem Closed.empty : Closed ops (fun _ => false) := fun i h => by cases h

theorem draw_ok (hT : TabOK P T) (hcall : CallOK P call) (hm : P.follows .mixedOrders = true) : DrawOK P T call := by
  intro id ops s s' h hc
  unfold adraw at h
  split at h
  · rename_i hdraw
    simp only at h
    split at h
    · rename_i F hF
      obtain ⟨hdown, hconf⟩ := drawOK_spec hdraw
      generalize hmm : tailFrom (waits ops.toList) ops.size = m at *
      have hle : m ≤ ops.size := hmm ▸ tailFrom_le _ _
      obtain ⟨g, g1, g2, g3⟩ := frontRun_chain _ _ _ _ hF
      have hlen : (ops.toList.take m).length = m := by rw [List.length_take]; simp only [Array.length_toList]; omega
      rw [hlen] at g2 g3
      simp only [Nat.zero_add] at g2 g3
      have hFr : Fronts P T call ops s m g := ⟨g1, fun i hi => by
        obtain ⟨o, ho, hf⟩ := g3 i hi
        rw [List.getElem?_take, if_pos hi] at ho
        exact ⟨o, by simpa using ho, hf⟩, hle⟩
      have hbits : ∀ i, m ≤ i → i < ops.size → ∀ j, j < i → dOf ops i j = true := fun i h1 h2 => tailFrom_bits _ _ _ (by rw [hmm]; exact h1) h2
      -- the tail's states
      let s0 : St := { s with tmps := tmpsAt (fun _ => true) s.tmps F.done, heap := heapAt (fun _ => true) s.heap F.made, hints := F.hints, cond := F.cond }
      have htail : ∀ (l : List Nat) (os : List Oper), l.map (ops[·]?) = os.map some → ∀ (s s' : St), aops P T call ops os s = some s' → All s'.cond → All s.cond ∧ s'.base = s.base := fun l os hl s s' h hc => by
        obtain ⟨a1, a2, _⟩ := aops_ok (Q := fun _ _ _ => True) hT hcall l os hl s s' h hc
        exact ⟨a1, a2⟩
      have hlist : ∀ k, k ≤ ops.size → (List.range' k (ops.size - k)).map (ops[·]?) = (ops.toList.drop k).map some := by
        intro k hk
        apply List.ext_getElem?
        intro i
        simp only [List.getElem?_map, List.getElem?_drop]
        rcases Nat.lt_or_ge i (ops.size - k) with hi | hi
        · have hi' : k + i < ops.size := by omega
          simp [List.getElem?_range', hi, hi']
        · have hi' : ops.size ≤ k + i := by omega
          rw [List.getElem?_eq_none (by simpa using hi), List.getElem?_eq_none (by simpa using hi')]
          rfl
      obtain ⟨c0, b0⟩ := htail _ _ (hlist m hle) s0 s' h hc
      have hgm : All (g m).cond := by rw [g2]; exact c0
      have hcs : All s.cond := by
        obtain ⟨_, _, _, _, _, _, h5⟩ := hFr.rest (Nat.zero_le m) (Nat.le_refl _)
        have := h5 hgm
        rw [hFr.zero] at this
        exact this
      refine ⟨hcs, b0, fun X μ0 a0 w0 hR0 Q hQ => wp_region_any hm ?_⟩
      have hinit := hR0.init
      -- the invariant
      let IT : (Nat → Bool) → Act → World → Prop := fun L a w => ∃ k sk μ, m ≤ k ∧ k ≤ ops.size ∧ (∀ j, L j = true ↔ j < k) ∧ aops P T call ops (ops.toList.drop k) sk = some s' ∧ sk.base = s.base ∧ RelS X μ sk a w ∧ Keep s.base μ0 s.heap w0 μ sk.heap w
      have conv : ∀ L a w, FrontInv X ops s m g μ0 w0 L a w → (∀ j, L j = true ↔ j < m) → IT L a w := by
        intro L a w hI hL
        obtain ⟨μ, hR, hTm, hK⟩ := hI.st
        have e1 : hAt s L (g m) = s0.heap := by
          show heapAt L s.heap (g m).made = heapAt (fun _ => true) s.heap F.made
          rw [g2]
          exact heapAt_congr fun e he => (hL e.1).2 ((hFr.lt (Nat.le_refl m)).2 e (by rw [g2]; exact he))
        have e2 : tmpsAt L s.tmps (g m).done = s0.tmps := by
          show _ = tmpsAt (fun _ => true) s.tmps F.done
          rw [g2]
          exact tmpsAt_congr _ _ fun e he => (hL e.1).2 ((hFr.lt (Nat.le_refl m)).1 e (by rw [g2]; exact he))
        rw [e1] at hR hTm hK
        rw [e2] at hTm
        refine ⟨m, s0, μ, Nat.le_refl _, hle, hL, h, rfl, ⟨⟨hR, hTm⟩, ?_, hI.dfr, ?_⟩, hK.mono hR0.base⟩
        · rw [← e2, tmpsAt_length]; exact hI.size
        · exact Nat.le_trans hR0.base hK.len
      have tstep : ∀ L a w i, IT L a w → Closed ops L → i < ops.size → L i = false → Direct ops L i → wpOp P ops Q i (IT (put1 L i)) a w := by
        intro L a w i hI hcl hi hLi hdir
        obtain ⟨k, sk, μ, hk1, hk2, hL, hrun, hbase, hR, hK⟩ := hI
        have hik : i = k := by
          have h1 : ¬ i < k := fun hh => by rw [(hL i).2 hh] at hLi; cases hLi
          rcases Nat.lt_or_ge k i with hlt | hge
          · have := waits_listed hdown hcl i hi hdir k (hbits i (by omega) hi k hlt)
            have := (hL k).1 this
            omega
          · omega
        subst hik
        have hdrop : ops.toList.drop i = ops[i] :: ops.toList.drop (i + 1) := by
          rw [List.drop_eq_getElem_cons (by simpa using hi)]
          simp
        rw [hdrop, aops_step] at hrun
        split at hrun
        · rename_i s1 h1
          obtain ⟨c1, b1⟩ := htail _ _ (hlist (i + 1) (by omega)) s1 s' hrun hc
          obtain ⟨_, b2, r⟩ := astep_ok (Q := Q) hT hcall (Array.getElem?_eq_getElem hi) h1 c1
          refine r X μ a w hR _ (fun μ1 a1 w1 hR1 k1 => ⟨i + 1, s1, μ1, by omega, by omega, fun j => ?_, hrun, b2.trans hbase, hR1, ?_⟩)
          · simp only [put1, Bool.or_eq_true, beq_iff_eq, hL j]; omega
          · rw [hbase] at k1
            exact hK.trans k1
        · cases hrun
      refine wpAny_inv hdown (fun L a w => FrontInv X ops s m g μ0 w0 L a w ∨ IT L a w) ?_ ?_ ops.size (Array.replicate ops.size false) a0 _ (by simp) (by simp) ?_ ?_
      · intro L a w i hI hcl hi hLi hdir
        rcases hI with hI | hI
        · rcases Nat.lt_or_ge i m with him | him
          · exact wpOp_mono (fun _ _ h => .inl h) (front_step hFr hT hcall hdraw hinit hgm hI hcl him hLi hdir)
          · have hall := fun j hj => waits_listed hdown hcl i hi hdir j (hbits i him hi j hj)
            have hLm : ∀ j, L j = true ↔ j < m := fun j => ⟨hI.sub j, fun hj => hall j (by omega)⟩
            exact wpOp_mono (fun _ _ h => .inr h) (tstep L a w i (conv L a w hI hLm) hcl hi hLi hdir)
        · exact wpOp_mono (fun _ _ h => .inr h) (tstep L a w i hI hcl hi hLi hdir)
      · intro L a w hI hall
        have fin : IT L a w → Q .normal a w := by
          rintro ⟨k, sk, μ, hk1, hk2, hL, hrun, hbase, hR, hK⟩
          have hk : k = ops.size := by
            rcases Nat.lt_or_ge k ops.size with hlt | hge
            · have := (hL k).1 ((hall k).2 hlt); omega
            · omega
          rw [hk, List.drop_of_length_le (by simp)] at hrun
          simp only [aops, Option.some.injEq] at hrun
          subst hrun
          exact hQ μ a w hR hK
        rcases hI with hI | hI
        · have hLm : ∀ j, L j = true ↔ j < m := fun j => ⟨hI.sub j, fun hj => (hall j).2 (by omega)⟩
          exact fin (conv L a w hI hLm)
        · exact fin hI
      · have : (fun j => (Array.replicate ops.size false).getD j false) = fun _ => false := by
          funext j
          simp only [Array.getD_eq_getD_getElem?, Array.getElem?_replicate]
          split <;> rfl
        rw [this]
        exact Closed.empty
      · have : (fun j => (Array.replicate ops.size false).getD j false) = fun _ => false := by
          funext j
          simp only [Array.getD_eq_getD_getElem?, Array.getElem?_replicate]
          split <;> rfl
        rw [this]
        refine .inl ⟨fun i hi => (by cases hi), ⟨μ0, ?_⟩, hR0.size, hR0.dfr⟩
        have hE := Ext.drew w0
        have hleft : Left s.heap (hAt s (fun _ => false) (g m)) := ⟨by simp [hAt, heapAt_length], fun b B hb => by
          rw [hAt, heapAt_old (getH_lt hb)]; exact hb⟩
        have hsame : ∀ c B, getH (hAt s (fun _ => false) (g m)) c = some B → getH s.heap c = some B := fun c B hb => by
          rcases heapAt_get hb with ⟨_, h2⟩ | ⟨j, k, _, _, h3⟩
          · exact h2
          · cases h3
        have hold : ∀ b B', b < s.heap.length → getH (hAt s (fun _ => false) (g m)) b = some B' → μ0 b = μ0 b ∧ ∃ B, getH s.heap b = some B ∧ sameKind B B' := fun b B' _ hb => ⟨rfl, B', hsame b B' hb, sameKind.refl _⟩
        have htk : ∀ k, Taken μ0 (hAt s (fun _ => false) (g m)) k → Taken μ0 s.heap k := fun k ⟨b, B, hb, e⟩ => ⟨b, B, hsame b B hb, e⟩
        have hfz : ∀ k, Fz X μ0 s.heap w0 k → Fz X μ0 (hAt s (fun _ => false) (g m)) { w0 with drawn := w0.drawn + 1 } k ∧ ({ w0 with drawn := w0.drawn + 1 } : World).heap[k]? = w0.heap[k]? := fun k hk => ⟨⟨hk.1, hk.2.1, fun ht => hk.2.2 (htk k ht)⟩, rfl⟩
        have hrep : ∀ x v, Rep μ0 s.heap w0 (Fz X μ0 s.heap w0) x v → Rep μ0 (hAt s (fun _ => false) (g m)) { w0 with drawn := w0.drawn + 1 } (Fz X μ0 (hAt s (fun _ => false) (g m)) { w0 with drawn := w0.drawn + 1 }) x v := fun x v hx => hx.keep hleft.1 hold hfz
        refine ⟨⟨hR0.ctx.rel.xlt, fun b B k hb e => hR0.ctx.rel.notX b B k (hsame b B hb) e, fun b b' B B' k hb hb' e e' => hR0.ctx.rel.dis b b' B B' k (hsame _ _ hb) (hsame _ _ hb') e e', fun b B hb => ?_⟩, fun t => ?_, ?_⟩
        · have hB := hR0.ctx.rel.blk b B (hsame b B hb)
          cases B with
          | var ty cells =>
            obtain ⟨g', cur, q1, q2, q3, q4⟩ := hB
            exact ⟨g', cur, q1, q2, q3, fun i x hx => ⟨hrep _ _ (q4 i x hx).1, (q4 i x hx).2⟩⟩
          | row ty sz els =>
            obtain ⟨q1, q2, vals, q3, q4⟩ := hB
            exact ⟨q1, q2, vals, q3, fun i j x f hx hf => (q4 i j x f hx hf).move hfz⟩
          | obj o => exact BRep.objMove hB rfl (fun _ _ => rfl)
        · rw [tmpsAt_off _ _ (fun _ _ => rfl)]
          exact hrep _ _ (hR0.ctx.tmps t)
        · exact ⟨Nat.le_refl _, rfl, ⟨rfl, Nat.le_succ _⟩, rfl, fun _ _ _ => rfl, fun k _ hn ht => hn (htk k ht), hleft.1, hold⟩
    · cases h
  · cases h
end
end Go.Proofs.Ai
