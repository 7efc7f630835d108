/- Contracts: a row of uids is sorted. -/
import Derived.Test.YtfjjeijkbhcoaaaAbClimb
import Derived.Test.YtfjjeijkbhcoaaaSortPlain
set_option linter.unusedVariables false
set_option linter.unusedSimpArgs false
namespace Go.Proofs.Ai
open Go Go.Sort Go.Lib

def cmpA (a b : Uid) : Int := if ltU a b then -1 else 1
theorem c103 (a b : Uid) : PureAt Try.prog 103 [uidV a, uidV b] (.int (cmpA a b)) true := by
  refine PureAt.scalar ?_
  cases h : ltU a b with
  | true =>
    have hrun : callC Γf1 Δnil 103 [uidV a, uidV b] [.br true] = some (.int (-1), true, [ltU (a.1, a.2) (b.1, b.2) = true]) := by kernel_rfl
    have := pure_run Γf1_ok Δnil_ok hrun ⟨h, trivial⟩
    simpa [cmpA, h] using this
  | false =>
    have hrun : callC Γf1 Δnil 103 [uidV a, uidV b] [.br false] = some (.int 1, true, [ltU (a.1, a.2) (b.1, b.2) = false]) := by kernel_rfl
    have := pure_run Γf1_ok Δnil_ok hrun ⟨h, trivial⟩
    simpa [cmpA, h] using this

theorem ext_grow {w w' : World} (e : Ext w w') : ∃ q os, w' = grow (w.drewN q) os := by
  refine ⟨w'.drawn - w.drawn, w'.heap.extract w.heap.size w'.heap.size, ?_⟩
  have h1 := e.tape.1
  have h2 := e.tape.2
  have h3 := e.os
  have h4 := e.output
  have h5 : w'.heap = w.heap ++ w'.heap.extract w.heap.size w'.heap.size := by
    apply Array.ext_getElem?
    intro i
    rcases Nat.lt_or_ge i w.heap.size with hi | hi
    · rw [Array.getElem?_append_left hi]
      exact e.heap i hi
    · rw [Array.getElem?_append_right hi, Array.getElem?_extract]
      have hs := e.size
      split
      · congr 1; omega
      · rw [Array.getElem?_eq_none]; omega
  have hd : w'.drawn = w.drawn + (w'.drawn - w.drawn) := by omega
  cases w' with | mk heap tape drawn os output =>
  simp only at *
  subst h1
  subst h3
  subst h4
  show _ = ({ w with heap := _ , drawn := w.drawn + (drawn - w.drawn) } : World)
  rw [← hd]
  show _ = ({ heap := w.heap ++ heap.extract w.heap.size heap.size, tape := w.tape, drawn := drawn, os := w.os, output := w.output } : World)
  rw [← h5]

abbrev encU (u : Uid) : List Value := [.string u.1, .string u.2]
theorem uid_rep {μ : Nat → Value} {H : AHeap} {w : World} {ok : Nat → Prop} (u : Uid) : Rep μ H w ok (uidV u) (.agg (encU u).toArray) := .agg rfl (fun i x hx => by
  match i with
  | 0 => simp at hx; subst hx; exact rep_sc rfl
  | 1 => simp at hx; subst hx; exact rep_sc rfl
  | i + 2 => simp at hx) (fun i hi => by
  match i with
  | 0 => rfl
  | 1 => rfl
  | i + 2 => simp at hi; omega)

theorem closure103 (x y : Uid) (W : World) : Calls Try.prog 103 #[.agg (encU x).toArray, .agg (encU y).toArray] W fun e w' => e = .returned (.int .i64 (cmpA x y)) ∧ ∃ q os', w' = grow (W.drewN q) os' := by
  refine (c103 x y (fun _ => False) W _ (fun k h => h.elim) rfl (fun i z hz => ?_)).mono (fun e w' he => ?_)
  · match i with
    | 0 => simp at hz; subst hz; exact uid_rep x
    | 1 => simp at hz; subst hz; exact uid_rep y
    | i + 2 => simp at hz
  · cases e with
    | returned v =>
      obtain ⟨h1, h2⟩ := he
      obtain ⟨rfl, _⟩ := rep_sc_inv h2
      exact ⟨rfl, ext_grow h1⟩
    | panicked c => exact he.elim
    | outgrown => exact he.elim

theorem ltA (x y : Uid) : ltOf cmpA x y = ltU x y := by
  unfold ltOf cmpA
  cases ltU x y <;> simp
theorem swoA : SWO (ltOf cmpA) where
  irrefl x := by rw [ltA]; exact ltU_irrefl x
  trans x y z h1 h2 := by rw [ltA] at *; exact ltU_trans h1 h2
  ntrans x y z h1 h2 := by
    rw [ltA] at *
    cases h : ltU x z with
    | false => rfl
    | true =>
      cases h3 : ltU y x with
      | true => have := ltU_trans h3 h; rw [this] at h2; cases h2
      | false => rw [ltU_tri h1 h3] at h; rw [h] at h2; cases h2
def sortU (l : List Uid) : List Uid := l.mergeSort fun x y => !ltU y x
theorem sortU_length (l : List Uid) : (sortU l).length = l.length := (List.mergeSort_perm l _).length_eq

theorem block_put {w : World} {g n : Nat} {cur : Array Value} {ty : TypeId} (d : Array Uid) (hg : w.heap[g]? = some (.cells cur ty (0, 0))) :
    (putRowK encU 2 (Sort.ahead w n) g 0 d).heap[g]? = some (.cells (putCells id 0 (flatK encU 2 d) cur) ty (0, 0)) ∧ (∀ k, k ≠ g → (putRowK encU 2 (Sort.ahead w n) g 0 d).heap[k]? = w.heap[k]?) ∧ (putRowK encU 2 (Sort.ahead w n) g 0 d).heap.size = w.heap.size := by
  refine ⟨?_, fun k hk => ?_, by unfold putRowK putRow mapBlock; simp [Sort.ahead]⟩
  · unfold putRowK putRow mapBlock
    simp only [Sort.ahead, Array.getElem?_modify, if_true, hg]
    rfl
  · unfold putRowK putRow mapBlock
    simp only [Sort.ahead, Array.getElem?_modify, if_neg (Ne.symm hk)]

theorem flat_get (l : List Uid) (i : Nat) (u : Uid) (h : l[i]? = some u) : (flatK encU 2 l.toArray)[i * 2 + 0]? = some (.string u.1) ∧ (flatK encU 2 l.toArray)[i * 2 + 1]? = some (.string u.2) := by
  have hi := (List.getElem?_eq_some_iff.1 h).1
  have hd : ∀ j, j < 2 → (i * 2 + j) / 2 = i ∧ (i * 2 + j) % 2 = j := fun j hj => ⟨by omega, by omega⟩
  have hx : l.toArray[i]! = u := by simp [h]
  have key : ∀ j, j < 2 → (flatK encU 2 l.toArray)[i * 2 + j]? = some ((encU u)[j]!) := by
    intro j hj
    obtain ⟨h1, h2⟩ := hd j hj
    unfold flatK
    rw [Array.getElem?_map, Array.getElem?_range]
    have : i * 2 + j < l.toArray.size * 2 := by simp; omega
    rw [if_pos this, Option.map_some, h1, h2, hx]
  exact ⟨key 0 (by omega), key 1 (by omega)⟩

theorem sort_heap (l : List Uid) (hl : l.length ≤ 1000000) {H : AHeap} {b : Nat} (hb : getH H b = some (.row 25 2 (l.map uidF))) : HeapAt Try.prog 102 [.own b, .fn (.func 103) [] []] H (.tup []) (setH H b (some (.row 25 2 ((sortU l).map uidF)))) := by
  intro X μ w vs hR hsz hargs
  obtain ⟨e0, o0⟩ := own_inv hb (hargs 0 _ rfl)
  have e1 : vs.getD 1 undef = .func (.func 103) #[] #[] := by
    have := hargs 1 _ rfl
    generalize vs.getD 1 undef = q at this
    cases this with
    | fn ha hc h h' =>
      rename_i as' cs'
      have h1 : as' = #[] := Array.eq_empty_of_size_eq_zero (by simpa using ha)
      have h2 : cs' = #[] := Array.eq_empty_of_size_eq_zero (by simpa using hc)
      rw [h1, h2]
    | dead hx => simp [refOf] at hx
  have hvs : vs = #[μ b, .func (.func 103) #[] #[]] := by
    match vs, hsz with
    | ⟨[x, y]⟩, _ =>
      have h0 : x = μ b := e0
      have h1 : y = .func (.func 103) #[] #[] := e1
      rw [h0, h1]
  rw [hvs]
  have eg : ∀ args w, (callFunc 103 args).run Try.prog w = .ok (.enter 103 args) w := fun args w => run_callFunc (by kernel_rfl) args w
  obtain ⟨hs0, hels, vals, ho, hv⟩ := hR.blk b _ hb
  have hslen : ((sortU l).map uidF).length = l.length := by simp [sortU_length]
  have hsame : sameKind (.row 25 2 (l.map uidF)) (.row 25 2 ((sortU l).map uidF)) := ⟨rfl, rfl, by simp [sortU_length]⟩
  rcases ho.2 with ⟨en, hn0⟩ | ⟨g, cap, cur, en, _, hh, hnc, hcm, hcs, htk⟩
  · have h0 : l = [] := List.eq_nil_of_length_eq_zero (by simpa using hn0)
    subst h0
    rw [en]
    have hcon := AnyF.slices_SortFunc_none (P := Try.prog) (ρ := Try.sortU_ren) { Try.sortU with } none 0 (.func (.func 103) #[] #[]) w
    change Calls Try.prog 102 _ _ _ at hcon
    refine hcon.mono (fun e w' he => ?_)
    obtain ⟨rfl, rfl⟩ := he
    have hsort : (sortU []).map uidF = ([] : List Uid).map uidF := by simp [sortU]
    rw [hsort]
    have hH : setH H b (some (.row 25 2 (([] : List Uid).map uidF))) = H := by
      have : ∀ (H : AHeap) (b : Nat) (B : Blk), getH H b = some B → setH H b (some B) = H := by
        intro H
        induction H with
        | nil => intro b B h; cases b <;> simp [getH] at h
        | cons x H ih =>
          intro b B h
          cases b with
          | zero => simp [getH] at h; subst h; rfl
          | succ b => simp only [setH]; rw [ih b B (by simpa [getH] using h)]
      exact this H b _ hb
    rw [hH]
    exact ⟨μ, hR, Keep.refl (Nat.le_refl _), .tup rfl (fun i x hx => by simp at hx)⟩
  · have hlen : (l.map uidF).length = l.length := by simp
    rw [hlen] at htk hnc ho en
    have hgb : blkOf (μ b) = some g := by rw [en]; rfl
    have hcell : ∀ i u, l[i]? = some u → vals[i * 2 + 0]? = some (.string u.1) ∧ vals[i * 2 + 1]? = some (.string u.2) := by
      intro i u hu
      have hx : (l.map uidF)[i]? = some (uidF u) := by rw [List.getElem?_map, hu]; rfl
      have hi := (List.getElem?_eq_some_iff.1 hu).1
      have h1 := hv i 0 _ _ hx rfl
      have h2 := hv i 1 _ _ hx rfl
      have hvl := ho.1
      have key : ∀ j (s : ByteArray), j < 2 → RepF w (Fz X μ H w) (.str s) (vals.getD (i * 2 + j) undef) → vals[i * 2 + j]? = some (.string s) := by
        intro j s hj h
        have hlt : i * 2 + j < vals.length := by omega
        rw [List.getD_eq_getElem?_getD, List.getElem?_eq_getElem hlt] at h
        rw [List.getElem?_eq_getElem hlt]
        simp only [Option.getD_some] at h
        generalize vals[i * 2 + j] = q at h
        cases h with
        | sc _ => rfl
      exact ⟨key 0 _ (by omega) h1, key 1 _ (by omega) h2⟩
    have hHolds : HoldsK encU 2 w g 0 l.toArray := by
      intro j hj
      simp only [size_flatK, List.size_toArray] at hj
      have ho' : w.ownsRow 0 25 2 (.slice (some ⟨g, 0, none⟩) l.length cap) l.length vals := by rw [← en]; exact ho
      have h1 := ho'.cellAt j hj
      have h2 := ho'.frozenAt j
      simp only [Nat.zero_add]
      refine ⟨?_, h2⟩
      rw [h1]
      have hi : j / 2 < l.length := by omega
      obtain ⟨c1, c2⟩ := hcell (j / 2) l[j / 2] (List.getElem?_eq_getElem hi)
      obtain ⟨f1, f2⟩ := flat_get l (j / 2) l[j / 2] (List.getElem?_eq_getElem hi)
      have hjj : j = j / 2 * 2 + j % 2 := by omega
      have h2' : j % 2 = 0 ∨ j % 2 = 1 := by omega
      have gsome : ∀ v, (flatK encU 2 l.toArray)[j]? = some v → (flatK encU 2 l.toArray)[j]! = v := fun v hv => by rw [Array.getElem!_eq_getD, Array.getD_eq_getD_getElem?, hv]; rfl
      rcases h2' with hm | hm
      · rw [hm] at hjj
        rw [← hjj] at c1 f1
        rw [c1, gsome _ f1]; rfl
      · rw [hm] at hjj
        rw [← hjj] at c2 f2
        rw [c2, gsome _ f2]; rfl
    have hgl : g < w.heap.size := (Array.getElem?_eq_some_iff.1 hh).1
    have hcon := AnyQ.slices_SortFunc_total (P := Try.prog) (ρ := Try.sortU_ren) Try.sortU 2 Try.isAgg25 Try.sizeOf25 encU (fun _ => rfl) (fun x v hv => by simp at hv; rcases hv with rfl | rfl <;> rfl) cmpA swoA 103 #[] g 0 cap l.toArray w eg
      (fun _ _ _ _ x y => closure103 x y _) hHolds hgl (by simp; omega) (fun x y h1 h2 => by rw [ltA] at h1 h2; exact ltU_tri h1 h2)
    change Calls Try.prog 102 _ _ _ at hcon
    rw [en]
    have hsz' : l.toArray.size = l.length := rfl
    rw [hsz'] at hcon
    refine hcon.mono (fun e w' he => ?_)
    obtain ⟨rfl, n, os, rfl⟩ := he
    have hsl : (l.toArray.toList.mergeSort fun x y => !(ltOf cmpA) y x) = sortU l := by
      unfold sortU
      congr 1
      funext x y
      rw [ltA]
    rw [hsl]
    obtain ⟨b1, b2, b3⟩ := block_put (w := w) (n := n) (sortU l).toArray hh
    generalize hw1 : putRowK encU 2 (Sort.ahead w n) g 0 (sortU l).toArray = w1 at b1 b2 b3
    have hw1' : w1.os = w.os ∧ TapeOK w w1 ∧ w1.output = w.output := by
      rw [← hw1]; exact ⟨rfl, ⟨rfl, Nat.le_add_right _ _⟩, rfl⟩
    have hheap : ∀ k, blkOf (μ b) ≠ some k → w1.heap[k]? = w.heap[k]? := fun k hk => b2 k (fun e => hk (by rw [hgb, e]))
    have hmv := setb_fz (X := X) hb hsame b3 hheap
    have hflen : (flatK encU 2 (sortU l).toArray).size = l.length * 2 := by simp [sortU_length]
    have hcapl : l.length * 2 ≤ cap * 2 := Nat.mul_le_mul_right _ hnc
    have htake : (putCells id 0 (flatK encU 2 (sortU l).toArray) cur).toList.take (l.length * 2) = (flatK encU 2 (sortU l).toArray).toList := by
      apply List.ext_getElem?
      intro k
      rw [List.getElem?_take]
      by_cases hk : k < l.length * 2
      · rw [if_pos hk]
        have hkc : k < cur.size := by omega
        have hkf : k < (flatK encU 2 (sortU l).toArray).size := by omega
        simp only [putCells, Array.getElem?_toList, Array.getElem?_mapIdx, Array.getElem?_eq_getElem hkc, Option.map_some, Nat.zero_le, true_and, Nat.zero_add, if_pos hkf, Nat.sub_zero, id, Array.getElem?_eq_getElem hkf]
        rw [getElem!_pos (flatK encU 2 (sortU l).toArray) k hkf]
      · rw [if_neg hk, Array.getElem?_toList, Array.getElem?_eq_none (by omega)]
    obtain ⟨p1, p2⟩ := hR.setb (w' := w1) hb hsame b3 hw1'.1 hw1'.2.1 hw1'.2.2 hheap (by
      refine ⟨hs0, fun i x hx => ?_, (flatK encU 2 (sortU l).toArray).toList, ?_, fun i j x f hx hf => ?_⟩
      · rw [List.getElem?_map] at hx
        obtain ⟨u, _, rfl⟩ := Option.map_eq_some_iff.1 hx
        rfl
      · rw [hslen]
        refine ⟨by simp [sortU_length], .inr ⟨g, cap, _, en, Nat.zero_le _, b1, hnc, hcm, by simp [putCells, hcs], htake⟩⟩
      · rw [List.getElem?_map] at hx
        obtain ⟨u, hu, rfl⟩ := Option.map_eq_some_iff.1 hx
        obtain ⟨f1, f2⟩ := flat_get (sortU l) i u hu
        match j with
        | 0 => simp at hf; subst hf; rw [List.getD_eq_getElem?_getD, Array.getElem?_toList, f1]; exact .sc rfl
        | 1 => simp at hf; subst hf; rw [List.getD_eq_getElem?_getD, Array.getElem?_toList, f2]; exact .sc rfl
        | j + 2 => simp at hf)
    have hext : Ext w1 (grow w1 os) := ⟨by simp [grow], rfl, TapeOK.refl _, rfl, fun k hk => by show (w1.heap ++ os)[k]? = _; rw [Array.getElem?_append_left hk]⟩
    have hwe : sortWorldK encU 2 w g 0 n (sortU l).toArray os = grow w1 os := by rw [← hw1]; rfl
    rw [hwe]
    exact ⟨μ, p1.ext hext, p2.trans (Keep.ext hext (by rw [length_setH]; exact Nat.le_refl _)), .tup rfl (fun i x hx => by simp at hx)⟩
end Go.Proofs.Ai
