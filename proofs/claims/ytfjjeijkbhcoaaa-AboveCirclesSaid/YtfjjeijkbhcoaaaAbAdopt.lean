/- A view: no slice at all, in a variable's cell, called an own row of nothing. -/
import Derived.Test.YtfjjeijkbhcoaaaBiCon
set_option linter.unusedVariables false
set_option linter.unusedSimpArgs false
namespace Go.Proofs.Ai
open Go

def nilAt (l : List AV) (j : Nat) : Bool := match l[j]? with
  | some (.fz (.sc (.slice none 0 0))) => true
  | _ => false
def adoptS (v j ty sz : Nat) (s : St) : Option St := match getH s.heap v with
  | some (.var cty cells) => if nilAt cells j && decide (0 < sz) then some { s with heap := setH (s.heap ++ [some (.row ty sz [])]) v (some (.var cty (cells.set j (.own s.heap.length)))) } else none
  | _ => none
theorem View.adopt {v j ty sz : Nat} {s s' : St} (h : adoptS v j ty sz s = some s') : View s s' := by
  unfold adoptS at h
  split at h
  · rename_i cty cells hv
    split at h
    · rename_i hc
      cases h
      simp only [Bool.and_eq_true, decide_eq_true_eq] at hc
      obtain ⟨hnil, hsz⟩ := hc
      have hcell : cells[j]? = some (.fz (.sc (.slice none 0 0))) := by
        unfold nilAt at hnil
        split at hnil
        · assumption
        · cases hnil
      refine ⟨rfl, fun X μ a w hR => ⟨upd μ s.heap.length (.slice none 0 0), ?_⟩⟩
      have hlt := getH_lt hv
      have hmade : Made μ s.heap w (Fz X μ s.heap w) w (.slice none 0 0) (.row ty sz []) := ⟨hsz, fun i x hx => (by simp at hx), [], World.ownsRow_nil w 0 ty sz, fun i j x f hx => (by simp at hx)⟩
      obtain ⟨p1, p2, p3, p4⟩ := hR.ctx.rel.push_made (Ext.refl w) (u := .slice none 0 0) (B := .row ty sz []) (fun k hk => by simp [blkOf] at hk) hmade
      have hb : getH (s.heap ++ [some (.row ty sz [])]) v = some (.var cty cells) := by rw [getH_append_old hlt]; exact hv
      have hs : sameKind (.var cty cells) (.var cty (cells.set j (.own s.heap.length))) := ⟨rfl, by simp⟩
      have hrep : ∀ x u, Rep (upd μ s.heap.length (.slice none 0 0)) (s.heap ++ [some (.row ty sz [])]) w (Fz X (upd μ s.heap.length (.slice none 0 0)) (s.heap ++ [some (.row ty sz [])]) w) x u →
          Rep (upd μ s.heap.length (.slice none 0 0)) (setH (s.heap ++ [some (.row ty sz [])]) v (some (.var cty (cells.set j (.own s.heap.length))))) w (Fz X (upd μ s.heap.length (.slice none 0 0)) (setH (s.heap ++ [some (.row ty sz [])]) v (some (.var cty (cells.set j (.own s.heap.length))))) w) x u :=
        fun x u hx => setb_rep hb hs rfl (fun _ _ => rfl) hx
      obtain ⟨g, cur, e1, e2, e3, e4⟩ := p1.blk v _ hb
      obtain ⟨q1, q2⟩ := p1.setb hb hs rfl rfl (TapeOK.refl w) rfl (fun _ _ => rfl) (B' := .var cty (cells.set j (.own s.heap.length))) (by
        refine ⟨g, cur, e1, e2, by rw [e3]; simp, fun i x hx => ?_⟩
        rw [List.getElem?_set] at hx
        split at hx
        · rename_i hij
          subst hij
          split at hx
          · cases hx
            obtain ⟨r1, r2⟩ := e4 j _ hcell
            obtain ⟨r3, _⟩ := rep_sc_inv r1
            refine ⟨?_, r2⟩
            rw [r3]
            exact hrep _ _ p4
          · cases hx
        · obtain ⟨r1, r2⟩ := e4 i x hx
          exact ⟨hrep _ _ r1, r2⟩)
      refine ⟨⟨⟨q1, fun t => hrep _ _ (p3 _ _ (hR.ctx.tmps t))⟩, hR.size, hR.dfr, ?_⟩, (p2.trans (q2.mono (by simp))).mono hR.base⟩
      show s.base ≤ (setH _ _ _).length
      rw [length_setH]
      simp
      have := hR.base
      omega
    · cases h
  · cases h
/-- .. behind a run. -/
theorem tr_runA {Γ : PureT} {Δ : HeapT} {s : St} {R : AExit → St → Prop} (hΓ : PureOK Try.prog Γ) (hΔ : HeapOK Try.prog Δ) (n : Nat) {c : Code} {hs : List Hint} {ks : List Tmp} {kills : List Nat} {N v j ty sz : Nat} {ts ts' : List AV} {H H' : AHeap} {cs : List Prop} (h : rT Γ Δ (pre n c) s hs ks kills N = some (.normal, ts, H, cs)) (hc : All cs)
    (hm : adoptS v j ty sz (stOf ts H s.base) = some (stOf ts' H' s.base)) (hR : Tr Try.prog (post n c) (stOf ts' H' s.base) R) : Tr Try.prog c s R :=
  tr_pre hΓ hΔ n h hc (Tr.view (View.adopt hm) hR)
end Go.Proofs.Ai
