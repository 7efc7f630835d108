/- Plain: parents make a circle just if the one who would have them were then above itself. -/
import Derived.Test.YtfjjeijkbhcoaaaAbGood9
set_option linter.unusedVariables false
set_option linter.unusedSimpArgs false
namespace Go.Proofs.Ai
open Go

def isU (v : Uid) (x : EntD) : Bool := x.u.1 == v.1 && x.u.2 == v.2
theorem isU_iff {v : Uid} {x : EntD} : isU v x = true ↔ x.u = v := by
  unfold isU
  simp only [Bool.and_eq_true, beq_iff_eq]
  exact ⟨fun h => Prod.ext h.1 h.2, fun h => by rw [h]; exact ⟨rfl, rfl⟩⟩
def psE (l : List EntD) (v : Uid) : List Uid := match l.find? (isU v) with
  | some e => e.ps
  | none => []
theorem psR_sorted {l : List EntD} (h : SrtE l) (v : Uid) : psR (l.map entF) v = psE l v := by
  have hs : Srt (l.map entF) := by unfold Srt; rw [List.pairwise_map]; exact h
  unfold psE
  cases hf : l.find? (isU v) with
  | none =>
    refine psR_not ?_
    cases hF : foundAt (l.map entF) v with
    | false => rfl
    | true =>
      rw [foundAt_iff hs] at hF
      obtain ⟨x, hx, e⟩ := List.mem_map.1 hF
      obtain ⟨y, hy, rfl⟩ := List.mem_map.1 hx
      have := List.find?_eq_none.1 hf y hy
      exact absurd (isU_iff.2 e) this
  | some e =>
    have hm := List.mem_of_find?_eq_some hf
    have he := isU_iff.1 (List.find?_some hf)
    obtain ⟨k, hk⟩ := List.getElem?_of_mem hm
    have hg : (l.map entF)[k]? = some (entF e) := by rw [List.getElem?_map, hk]; rfl
    have := entAt_at hs hg
    have hu : uidOf (entF e) = v := he
    rw [hu] at this
    unfold psR
    rw [this]
    show (e.ps.map uidF).map uidOf = _
    rw [uidOf_map]
theorem find_drop {u v : Uid} (huv : v ≠ u) : ∀ l : List EntD, (dropE l u).find? (isU v) = l.find? (isU v)
  | [] => rfl
  | x :: l => by
    have ih := find_drop huv l
    unfold dropE at *
    rw [List.filter_cons]
    cases hx : isU v x with
    | true =>
      have hxu : (!(x.u.1 == u.1 && x.u.2 == u.2)) = true := by
        rw [Bool.not_eq_true']
        cases hb : (x.u.1 == u.1 && x.u.2 == u.2) with
        | false => rfl
        | true =>
          have h1 : x.u = u := isU_iff.1 hb
          exact absurd ((isU_iff.1 hx).symm.trans h1) huv
      rw [if_pos hxu, List.find?_cons, List.find?_cons, hx]
    | false =>
      rw [List.find?_cons, hx]
      split
      · rw [List.find?_cons, hx]; exact ih
      · exact ih
theorem find_put {l : List EntD} {e : EntD} {v : Uid} (hv : v ≠ e.u) : (putE l e).find? (isU v) = l.find? (isU v) := by
  rw [← find_drop hv l]
  unfold putE
  generalize seekI (fun x => ltU x.u e.u) (dropE l e.u) = q
  generalize dropE l e.u = d
  have hx : isU v e = false := by
    cases hb : isU v e with
    | false => rfl
    | true => exact absurd (isU_iff.1 hb).symm hv
  rw [List.find?_append, List.find?_cons, hx]
  show ((d.take q).find? (isU v)).or ((d.drop q).find? (isU v)) = _
  rw [← List.find?_append, List.take_append_drop]
theorem find_put_self {l : List EntD} {e : EntD} : (putE l e).find? (isU e.u) = some e := by
  unfold putE
  have hno : ∀ x ∈ dropE l e.u, isU e.u x = false := by
    intro x hx
    have := (List.mem_filter.1 hx).2
    cases hb : isU e.u x with
    | false => rfl
    | true =>
      have h1 : x.u = e.u := isU_iff.1 hb
      rw [h1] at this
      simp at this
  generalize seekI (fun x => ltU x.u e.u) (dropE l e.u) = q
  generalize dropE l e.u = d at hno
  have h1 : (d.take q).find? (isU e.u) = none := List.find?_eq_none.2 (fun x hx => by rw [hno x (List.mem_of_mem_take hx)]; simp)
  have h2 : isU e.u e = true := isU_iff.2 rfl
  rw [List.find?_append, h1, List.find?_cons, h2]
  rfl
theorem find_set {v : Uid} {e' : EntD} (h' : isU v e' = false) : ∀ (l : List EntD) (k : Nat) (x : EntD), l[k]? = some x → isU v x = false → (l.set k e').find? (isU v) = l.find? (isU v)
  | [], k, x, h, _ => by simp at h
  | y :: l, 0, x, h, hx => by
    simp at h
    subst h
    rw [List.set_cons_zero, List.find?_cons, List.find?_cons, h', hx]
  | y :: l, k + 1, x, h, hx => by
    rw [List.set_cons_succ, List.find?_cons, List.find?_cons]
    rw [find_set h' l k x (by simpa using h) hx]

theorem climbM_sub (ps : Uid → List Uid) : ∀ (f : Nat) (st met : List Uid) (y : Uid), y ∈ met → y ∈ climbM ps f st met
  | 0, st, met, y, h => h
  | f + 1, [], met, y, h => h
  | f + 1, u :: st, met, y, h => by
    simp only [climbM]
    cases hm : met.contains u with
    | true => rw [cond_true]; exact climbM_sub ps f st met y h
    | false => rw [cond_false]; exact climbM_sub ps f _ _ y (List.mem_append_left _ h)
/-- What is met up to one does not ask for that one's parents. -/
theorem climb_same {E1 E2 : List (List FV)} {u : Uid} (h : ∀ v, v ≠ u → psR E1 v = psR E2 v) : ∀ (f1 f2 : Nat) (st met : List Uid), met.contains u = false → pot E1 st met ≤ f1 → pot E2 st met ≤ f2 →
    (climbM (psR E1) f1 st met).contains u = (climbM (psR E2) f2 st met).contains u
  | f1, f2, [], met, hm, h1, h2 => by
    have e1 : climbM (psR E1) f1 [] met = met := by cases f1 <;> rfl
    have e2 : climbM (psR E2) f2 [] met = met := by cases f2 <;> rfl
    rw [e1, e2]
  | 0, f2, x :: st, met, hm, h1, h2 => by
    have : (x :: st).length ≤ pot E1 (x :: st) met := by unfold pot; omega
    simp at this
    omega
  | f1 + 1, 0, x :: st, met, hm, h1, h2 => by
    have : (x :: st).length ≤ pot E2 (x :: st) met := by unfold pot; omega
    simp at this
    omega
  | f1 + 1, f2 + 1, x :: st, met, hm, h1, h2 => by
    simp only [climbM]
    cases hx : met.contains x with
    | true =>
      simp only [cond_true]
      have o1 := pot_old E1 x st met
      have o2 := pot_old E2 x st met
      exact climb_same h f1 f2 st met hm (by omega) (by omega)
    | false =>
      simp only [cond_false]
      have n1 := pot_new E1 x st met hx
      have n2 := pot_new E2 x st met hx
      by_cases hxu : x = u
      · subst hxu
        have a1 := climbM_sub (psR E1) f1 ((psR E1 x).reverse ++ st) (met ++ [x]) x (by simp)
        have a2 := climbM_sub (psR E2) f2 ((psR E2 x).reverse ++ st) (met ++ [x]) x (by simp)
        rw [List.contains_eq_mem, List.contains_eq_mem, decide_eq_true a1, decide_eq_true a2]
      · have hmx : (met ++ [x]).contains u = false := by
          rw [List.contains_eq_mem] at hm ⊢
          simp only [decide_eq_false_iff_not, List.mem_append, List.mem_singleton] at hm ⊢
          rintro (h | h)
          · exact hm h
          · exact hxu h.symm
        rw [← h x hxu] at n2 ⊢
        exact climb_same h f1 f2 _ _ hmx (by omega) (by omega)
theorem climbS_same {E1 E2 : List (List FV)} {u : Uid} (h : ∀ v, v ≠ u → psR E1 v = psR E2 v) (fr : List Uid) : (climbS E1 fr).contains u = (climbS E2 fr).contains u := by
  have hp : ∀ E : List (List FV), pot E fr.reverse [] = fuelR E fr := fun E => by
    unfold pot fuelR
    rw [List.length_reverse]
    congr 2
  unfold climbS
  exact climb_same h _ _ _ _ rfl (by rw [hp]; exact Nat.le_refl _) (by rw [hp]; exact Nat.le_refl _)

theorem psR_circ {g : List EntD} (h : SrtE g) (u v : Uid) (hv : v ≠ u) : psR (circE (g.map entF) u) v = psE g v := by
  have hs : Srt (g.map entF) := by unfold Srt; rw [List.pairwise_map]; exact h
  unfold circE
  cases hf : foundAt (g.map entF) u with
  | false => simp only [Bool.false_eq_true, if_false]; exact psR_sorted h v
  | true =>
    simp only [if_true]
    rw [foundAt_iff hs] at hf
    obtain ⟨x, hx, hxu⟩ := List.mem_map.1 hf
    obtain ⟨e, he, rfl⟩ := List.mem_map.1 hx
    have heu : e.u = u := hxu
    obtain ⟨k, hk⟩ := List.getElem?_of_mem he
    have hg : (g.map entF)[k]? = some (entF e) := by rw [List.getElem?_map, hk]; rfl
    have h1 := entAt_at hs hg
    have h2 := seek_at hs hg
    have hue : uidOf (entF e) = u := heu
    rw [hue] at h1 h2
    rw [h1]
    have hset : setE (g.map entF) (strAt (entF e) 0, strAt (entF e) 1) [] (slAt (entF e) 3) = (g.set k ⟨e.u, [], e.ats⟩).map entF := by
      have e1 : ((strAt (entF e) 0, strAt (entF e) 1) : Uid) = u := by rw [← heu]; rfl
      rw [e1]
      unfold setE
      rw [h2, List.map_set]
      congr 1
      rw [← heu]
      rfl
    rw [hset]
    have hss : SrtE (g.set k ⟨e.u, [], e.ats⟩) := by
      have hm : (g.set k ⟨e.u, [], e.ats⟩).map (·.u) = g.map (·.u) := by
        rw [List.map_set]
        apply List.ext_getElem?
        intro i
        rw [List.getElem?_set]
        by_cases hi : k = i
        · subst hi
          have hlt := (List.getElem?_eq_some_iff.1 hk).1
          rw [if_pos rfl, if_pos (by simpa using hlt), List.getElem?_map, hk]
          rfl
        · rw [if_neg hi]
      have hP : ∀ l : List EntD, SrtE l ↔ (l.map (·.u)).Pairwise fun a b => ltU a b = true := fun l => by unfold SrtE; rw [List.pairwise_map]
      rw [hP, hm, ← hP]
      exact h
    rw [psR_sorted hss v]
    unfold psE
    have hne : isU v e = false := by
      cases hb : isU v e with
      | false => rfl
      | true => exact absurd ((isU_iff.1 hb).symm.trans heu) hv
    rw [find_set (e' := ⟨e.u, [], e.ats⟩) hne g k e hk hne]

/-- The plain law. -/
theorem circle_law {g : List EntD} (h : SrtE g) (u : Uid) (ps : List Uid) : circS (g.map entF) u ps = (aboveS ((putE g ⟨u, ps, []⟩).map entF) u).contains u := by
  have hput := putE_sorted h ⟨u, ps, []⟩
  have hself : psR ((putE g ⟨u, ps, []⟩).map entF) u = ps := by
    rw [psR_sorted hput]
    unfold psE
    have := find_put_self (l := g) (e := ⟨u, ps, []⟩)
    rw [show isU u = isU (EntD.u ⟨u, ps, []⟩) from rfl, this]
  have hoth : ∀ v, v ≠ u → psR (circE (g.map entF) u) v = psR ((putE g ⟨u, ps, []⟩).map entF) v := fun v hv => by
    rw [psR_circ h u v hv, psR_sorted hput]
    unfold psE
    rw [find_put (l := g) (e := ⟨u, ps, []⟩) hv]
  unfold circS aboveS
  rw [hself, climbS_same hoth ps]
  have hp := List.mergeSort_perm (climbS ((putE g ⟨u, ps, []⟩).map entF) ps) (fun x y => !ltU y x)
  rw [List.contains_eq_mem, List.contains_eq_mem]
  have : (u ∈ climbS ((putE g ⟨u, ps, []⟩).map entF) ps) ↔ (u ∈ sortU (climbS ((putE g ⟨u, ps, []⟩).map entF) ps)) := hp.mem_iff.symm
  exact decide_eq_decide.2 this
end Go.Proofs.Ai
