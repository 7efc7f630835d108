/- Plain: a few uids by numbers: the way up over them is that over the numbers. -/
import Derived.Test.YtfjjeijkbhcoaaaAbSeek
set_option linter.unusedVariables false
set_option linter.unusedSimpArgs false
namespace Go.Proofs.Ai
open Go

def climbN (ps : Nat → List Nat) : Nat → List Nat → List Nat → List Nat
  | 0, _, met => met
  | _ + 1, [], met => met
  | f + 1, u :: st, met => bif met.contains u then climbN ps f st met else climbN ps f ((ps u).reverse ++ st) (met ++ [u])

theorem climb_code {c : Nat → Uid} {D : Nat → Prop} {ps : Uid → List Uid} {psN : Nat → List Nat} (inj : ∀ i j, D i → D j → c i = c j → i = j) (hps : ∀ i, D i → ps (c i) = (psN i).map c ∧ ∀ x ∈ psN i, D x) :
    ∀ (f : Nat) (st met : List Nat), (∀ x ∈ st, D x) → (∀ x ∈ met, D x) → climbM ps f (st.map c) (met.map c) = (climbN psN f st met).map c ∧ ∀ x ∈ climbN psN f st met, D x
  | 0, st, met, h1, h2 => ⟨rfl, h2⟩
  | f + 1, [], met, h1, h2 => ⟨rfl, h2⟩
  | f + 1, u :: st, met, h1, h2 => by
    have hu := h1 u List.mem_cons_self
    have hst : ∀ x ∈ st, D x := fun x hx => h1 x (List.mem_cons_of_mem _ hx)
    have hc : (met.map c).contains (c u) = met.contains u := by
      rw [List.contains_eq_mem, List.contains_eq_mem]
      by_cases hm : u ∈ met
      · have : c u ∈ met.map c := List.mem_map.2 ⟨u, hm, rfl⟩
        simp [hm, this]
      · have : c u ∉ met.map c := fun h => by
          obtain ⟨x, hx, e⟩ := List.mem_map.1 h
          exact hm ((inj x u (h2 x hx) hu e) ▸ hx)
        simp only [hm, this]
    simp only [List.map_cons, climbM, climbN, hc]
    cases hm : met.contains u with
    | true => simp only [cond_true]; exact climb_code inj hps f st met hst h2
    | false =>
      simp only [cond_false]
      obtain ⟨e1, e2⟩ := hps u hu
      have := climb_code inj hps f ((psN u).reverse ++ st) (met ++ [u]) (fun x hx => by
        rcases List.mem_append.1 hx with hx | hx
        · exact e2 x (List.mem_reverse.1 hx)
        · exact hst x hx) (fun x hx => by
        rcases List.mem_append.1 hx with hx | hx
        · exact h2 x hx
        · simp at hx; subst hx; exact hu)
      simp only [List.map_append, List.map_reverse, List.map_cons, List.map_nil] at this
      rw [e1]
      exact this

/-- Entities by numbers: each with its parents. -/
abbrev NE := List (Nat × List Nat)
def lE (c : Nat → Uid) (l : NE) : List (List FV) := l.map fun x => entF ⟨c x.1, x.2.map c, []⟩
def psN (l : NE) (i : Nat) : List Nat := match l.find? (fun x => x.1 == i) with
  | some x => x.2
  | none => []
/-- The numbers stand in the order of their uids. -/
structure CodeOK (c : Nat → Uid) (D : Nat → Prop) (l : NE) : Prop where
  inj : ∀ i j, D i → D j → c i = c j → i = j
  ids : ∀ x ∈ l, D x.1 ∧ ∀ y ∈ x.2, D y
  srt : l.Pairwise fun x y => ltU (c x.1) (c y.1) = true
  few : l.length ≤ 1000 ∧ ∀ x ∈ l, x.2.length ≤ 100

section
variable {c : Nat → Uid} {D : Nat → Prop} {l : NE}
theorem CodeOK.ents (h : CodeOK c D l) : EntsOK (lE c l) := by
  refine ⟨l.map fun x => ⟨c x.1, x.2.map c, []⟩, by simp [lE], fun e he => ?_, by simp; have := h.few.1; omega⟩
  obtain ⟨x, hx, rfl⟩ := List.mem_map.1 he
  have := h.few.2 x hx
  exact ⟨by simp; omega, by simp, fun a ha => by cases ha⟩
theorem CodeOK.fewPs (h : CodeOK c D l) : FewPs (lE c l) := by
  unfold FewPs lE
  have : ∀ l : NE, (∀ x ∈ l, x.2.length ≤ 100) → ((l.map fun x => entF ⟨c x.1, x.2.map c, []⟩).map fun x => (slAt x 2).length).sum ≤ l.length * 100 := by
    intro l
    induction l with
    | nil => intro _; simp
    | cons x l ih =>
      intro hx
      have h1 := ih (fun y hy => hx y (List.mem_cons_of_mem _ hy))
      have h2 := hx x List.mem_cons_self
      have h3 : (slAt (entF ⟨c x.1, x.2.map c, []⟩) 2).length = x.2.length := by show ((x.2.map c).map uidF).length = _; simp
      simp only [List.map_cons, List.sum_cons, h3, List.length_cons]
      omega
  have := this l h.few.2
  have := h.few.1
  omega
theorem CodeOK.sorted (h : CodeOK c D l) : Srt (lE c l) := by
  unfold Srt lE
  rw [List.pairwise_map]
  exact h.srt
theorem CodeOK.uids (l : NE) : (lE c l).map uidOf = (l.map (·.1)).map c := by
  unfold lE
  rw [List.map_map, List.map_map]
  rfl
theorem CodeOK.ps (h : CodeOK c D l) {i : Nat} (hi : D i) : psR (lE c l) (c i) = (psN l i).map c ∧ ∀ x ∈ psN l i, D x := by
  unfold psN
  cases hf : l.find? (fun x => x.1 == i) with
  | none =>
    refine ⟨psR_not ?_, fun x hx => by cases hx⟩
    cases hF : foundAt (lE c l) (c i) with
    | false => rfl
    | true =>
      rw [foundAt_iff h.sorted, CodeOK.uids] at hF
      obtain ⟨j, hj, e⟩ := List.mem_map.1 hF
      obtain ⟨x, hx, rfl⟩ := List.mem_map.1 hj
      have := h.inj x.1 i (h.ids x hx).1 hi e
      have h2 := List.find?_eq_none.1 hf x hx
      simp [this] at h2
  | some x =>
    have hx := List.mem_of_find?_eq_some hf
    have he := List.find?_some hf
    simp only [beq_iff_eq] at he
    subst he
    obtain ⟨k, hk⟩ := List.getElem?_of_mem hx
    have hg : (lE c l)[k]? = some (entF ⟨c x.1, x.2.map c, []⟩) := by unfold lE; rw [List.getElem?_map, hk]; rfl
    have := entAt_at h.sorted hg
    refine ⟨?_, (h.ids x hx).2⟩
    have hu : uidOf (entF ⟨c x.1, x.2.map c, []⟩) = c x.1 := rfl
    rw [hu] at this
    unfold psR
    rw [this]
    show ((x.2.map c).map uidF).map uidOf = _
    rw [uidOf_map]
theorem CodeOK.fuel (fr : List Uid) (l : NE) : fuelR (lE c l) fr = fr.length + (l.map fun x => x.2.length).sum := by
  unfold fuelR lE
  rw [List.map_map]
  congr 2
  apply List.map_congr_left
  intro x _
  show ((x.2.map c).map uidF).length = _
  simp
def climbL (l : NE) (fr : List Nat) : List Nat := climbN (psN l) (fr.length + (l.map fun x => x.2.length).sum) fr.reverse []
theorem CodeOK.climb (h : CodeOK c D l) {fr : List Nat} (hfr : ∀ x ∈ fr, D x) : climbS (lE c l) (fr.map c) = (climbL l fr).map c ∧ ∀ x ∈ climbL l fr, D x := by
  have := climb_code h.inj (fun i hi => h.ps hi) (fr.length + (l.map fun x => x.2.length).sum) fr.reverse [] (fun x hx => hfr x (List.mem_reverse.1 hx)) (fun x hx => by cases hx)
  unfold climbS climbL
  rw [CodeOK.fuel, ← List.map_reverse, List.length_map]
  exact this
theorem CodeOK.has (h : CodeOK c D l) {m : List Nat} (hm : ∀ x ∈ m, D x) {i : Nat} (hi : D i) : (m.map c).contains (c i) = m.contains i := by
  rw [List.contains_eq_mem, List.contains_eq_mem]
  by_cases h1 : i ∈ m
  · have : c i ∈ m.map c := List.mem_map.2 ⟨i, h1, rfl⟩
    simp [h1, this]
  · have : c i ∉ m.map c := fun h2 => by
      obtain ⟨x, hx, e⟩ := List.mem_map.1 h2
      exact h1 ((h.inj x i (hm x hx) hi e) ▸ hx)
    simp only [h1, this]
theorem CodeOK.inN (h : CodeOK c D l) {i j : Nat} (hi : D i) (hj : D j) : inB (lE c l) (c i) (c j) = (climbL l [i]).contains j := by
  obtain ⟨e1, e2⟩ := h.climb (fr := [i]) (fun x hx => by simp at hx; subst hx; exact hi)
  unfold inB
  rw [show [c i] = [i].map c from rfl, e1]
  exact h.has e2 hj
theorem CodeOK.aboveN (h : CodeOK c D l) {i : Nat} (hi : D i) : (aboveS (lE c l) (c i)).length = (climbL l (psN l i)).length := by
  obtain ⟨e1, e2⟩ := h.ps hi
  unfold aboveS
  rw [sortU_length, e1, (h.climb e2).1, List.length_map]
def belowL (l : NE) (i : Nat) : List Nat := (l.map (·.1)).filter fun j => !(j == i) && (climbL l [j]).contains i
theorem CodeOK.belowN (h : CodeOK c D l) {i : Nat} (hi : D i) : belowS (lE c l) (c i) = (belowL l i).map c := by
  unfold belowS belowL
  rw [CodeOK.uids, List.filter_map]
  congr 1
  apply List.filter_congr
  intro j hj
  obtain ⟨x, hx, rfl⟩ := List.mem_map.1 hj
  have hd := (h.ids x hx).1
  show (!((c x.1).1 == (c i).1 && (c x.1).2 == (c i).2) && inB (lE c l) (c x.1) (c i)) = _
  rw [h.inN hd hi]
  congr 2
  by_cases he : x.1 = i
  · rw [he]; simp
  · have : (x.1 == i) = false := by simpa using he
    rw [this]
    have hne : c x.1 ≠ c i := fun e => he (h.inj _ _ hd hi e)
    cases hb : ((c x.1).1 == (c i).1 && (c x.1).2 == (c i).2) with
    | false => rfl
    | true =>
      simp only [Bool.and_eq_true, beq_iff_eq] at hb
      exact absurd (Prod.ext hb.1 hb.2) hne
/-- One without its parents. -/
def bareN (l : NE) (i : Nat) : NE := l.map fun x => if x.1 == i then (x.1, []) else x
theorem bare_ok (h : CodeOK c D l) (i : Nat) : CodeOK c D (bareN l i) := by
  have hmap : (bareN l i).map (·.1) = l.map (·.1) := by
    unfold bareN
    rw [List.map_map]
    apply List.map_congr_left
    intro x _
    show (if x.1 == i then (x.1, ([] : List Nat)) else x).1 = x.1
    split <;> rfl
  refine ⟨h.inj, fun x hx => ?_, ?_, by unfold bareN; rw [List.length_map]; exact h.few.1, fun x hx => ?_⟩
  · obtain ⟨y, hy, rfl⟩ := List.mem_map.1 hx
    split
    · exact ⟨(h.ids y hy).1, fun z hz => by cases hz⟩
    · exact h.ids y hy
  · have h1 := h.srt
    have : ∀ (P : Nat → Nat → Prop) (l : NE), (l.Pairwise fun x y => P x.1 y.1) ↔ (l.map (·.1)).Pairwise P := fun P l => by rw [List.pairwise_map]
    rw [this (fun a b => ltU (c a) (c b) = true)] at h1 ⊢
    rw [hmap]
    exact h1
  · obtain ⟨y, hy, rfl⟩ := List.mem_map.1 hx
    split
    · simp
    · exact h.few.2 y hy
theorem CodeOK.circE (h : CodeOK c D l) {k i : Nat} {ps : List Nat} (hk : l[k]? = some (i, ps)) : circE (lE c l) (c i) = lE c (bareN l i) := by
  have hg : (lE c l)[k]? = some (entF ⟨c i, ps.map c, []⟩) := by unfold lE; rw [List.getElem?_map, hk]; rfl
  have hu : uidOf (entF ⟨c i, ps.map c, []⟩) = c i := rfl
  have h1 := foundAt_at h.sorted hg
  have h2 := entAt_at h.sorted hg
  have h3 := seek_at h.sorted hg
  rw [hu] at h1 h2 h3
  unfold Ai.circE
  rw [if_pos h1, h2]
  have : setE (lE c l) (strAt (entF ⟨c i, ps.map c, []⟩) 0, strAt (entF ⟨c i, ps.map c, []⟩) 1) [] (slAt (entF ⟨c i, ps.map c, []⟩) 3) = (lE c l).set (seek (lE c l) (c i)) (entF ⟨c i, [], []⟩) := rfl
  rw [this, h3]
  apply List.ext_getElem?
  intro m
  rw [List.getElem?_set]
  unfold lE bareN
  simp only [List.getElem?_map, List.length_map]
  by_cases hm : k = m
  · subst hm
    have hlt := (List.getElem?_eq_some_iff.1 hk).1
    rw [if_pos rfl, if_pos hlt, hk]
    simp
  · rw [if_neg hm]
    cases hx : l[m]? with
    | none => rfl
    | some x =>
      simp only [Option.map_some]
      have : (x.1 == i) = false := by
        cases hb : (x.1 == i) with
        | false => rfl
        | true =>
          simp only [beq_iff_eq] at hb
          have hs := List.pairwise_iff_getElem.1 h.srt
          obtain ⟨hm', hxe⟩ := List.getElem?_eq_some_iff.1 hx
          obtain ⟨hk', hke⟩ := List.getElem?_eq_some_iff.1 hk
          rcases Nat.lt_or_gt_of_ne hm with hlt | hgt
          · have := hs k m hk' hm' hlt
            rw [hke, hxe, hb, ltU_irrefl] at this
            cases this
          · have := hs m k hm' hk' hgt
            rw [hke, hxe, hb, ltU_irrefl] at this
            cases this
      rw [this]
      rfl
theorem CodeOK.circN (h : CodeOK c D l) {k i : Nat} {ps : List Nat} (hk : l[k]? = some (i, ps)) {fr : List Nat} (hfr : ∀ x ∈ fr, D x) : circS (lE c l) (c i) (fr.map c) = (climbL (bareN l i) fr).contains i := by
  unfold circS
  rw [h.circE hk]
  have hb := bare_ok h i
  obtain ⟨e1, e2⟩ := hb.climb hfr
  rw [e1]
  exact hb.has e2 (h.ids _ (List.mem_of_getElem? hk)).1
end
end Go.Proofs.Ai
