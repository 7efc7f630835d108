/- Contracts: who is above one; who is below. -/
import Derived.Test.YtfjjeijkbhcoaaaAbRange
import Derived.Test.YtfjjeijkbhcoaaaAbSort
set_option linter.unusedVariables false
set_option linter.unusedSimpArgs false
namespace Go.Proofs.Ai
open Go

def regId : Code → Nat
  | .region i _ _ => i
  | _ => 0
def regOps : Code → Array Oper
  | .region _ o _ => o
  | _ => #[]
def opAt (o : Array Oper) (i : Nat) : Oper := o.toList.getD i default

def Γa : PureT := fun f xs => match f, xs with
  | 31, [.fz (.sl 4 els), .agg [.fz (.sc (.string a)), .fz (.sc (.string b))]] => some (entRes els (a, b), false, [EntsOK els])
  | 80, [.fz (.sl 4 els), .fz (.sl 2 fr)] => some (.fz (.mp (setEs (climbS els (fr.map uidOf))) (climbS els (fr.map uidOf)).length), true, [EntsOK els, UidRow fr])
  | _, _ => none
theorem Γa_ok : PureOK Try.prog Γa := by
  intro f xs r fresh c hg hc
  unfold Γa at hg
  split at hg
  · cases hg; exact c31 _ (_, _) hc.1
  · cases hg
    obtain ⟨h1, ⟨⟨l, rfl⟩, h2⟩, _⟩ := hc
    rw [uidOf_map]
    exact c80 _ l h1 (by simpa using h2)
  · cases hg
def Δa : HeapT := fun f l H => match f, l, H with
  | 102, [.own 3, .fn (.func 103) [] []], [A, B, C, some (.row 25 2 els)] => some (.tup [], [A, B, C, some (.row 25 2 ((sortU (els.map uidOf)).map uidF))], [UidRow els])
  | _, _, _ => none
theorem Δa_ok : HeapOK Try.prog Δa := by
  intro f l H r H' c h hc
  unfold Δa at h
  split at h
  · cases h
    obtain ⟨⟨⟨l, rfl⟩, h2⟩, _⟩ := hc
    rw [uidOf_map]
    exact sort_heap l (by simpa using h2) (b := 3) rfl
  · cases h

noncomputable abbrev L50 : Code := post 3 (bodyOf Try.f50)
noncomputable abbrev B50 : Code := cb (cb (cr (cl L50)))
noncomputable abbrev E50 : Code := cb (cr (cr B50))

abbrev H50 (u : Uid) (els : List (List FV)) (L : List Uid) : AHeap := [some (.var 25 [.str u.1, .str u.2]), some (.row 25 2 []), some (.var 29 [.str (strAt (entAt els u) 0), .str (strAt (entAt els u) 1), .fz (.sl 2 (slAt (entAt els u) 2)), .fz (.sl 8 (slAt (entAt els u) 3))]), some (.row 25 2 (L.map uidF))]
abbrev S50 (els : List (List FV)) (u : Uid) (L : List Uid) (r : Nat) : St := stOf (sp 31 [(0, .fz (.sl 4 els)), (7, .own 3), (19, itV r)]) (H50 u els L) 0
def aboveS (els : List (List FV)) (u : Uid) : List Uid := sortU (climbS els (psR els u))

theorem sorted_eq : ∀ {l m : List Uid}, l.Perm m → l.Pairwise (fun x y => (!ltU y x) = true) → m.Pairwise (fun x y => (!ltU y x) = true) → l = m
  | [], m, hp, _, _ => hp.nil_eq
  | x :: l, m, hp, hl, hm => by
    cases m with
    | nil => exact absurd hp.length_eq (by simp)
    | cons y m =>
      have hxy : x = y := by
        have h1 : x ∈ y :: m := hp.mem_iff.1 List.mem_cons_self
        have h2 : y ∈ x :: l := hp.mem_iff.2 List.mem_cons_self
        rcases List.mem_cons.1 h1 with h1 | h1
        · exact h1
        · rcases List.mem_cons.1 h2 with h2 | h2
          · exact h2.symm
          · have g1 := List.rel_of_pairwise_cons hl h2
            have g2 := List.rel_of_pairwise_cons hm h1
            exact ltU_tri (by simpa using g2) (by simpa using g1)
      subst hxy
      rw [sorted_eq ((List.perm_cons x).1 hp) hl.of_cons hm.of_cons]
theorem sortU_sorted (l : List Uid) : (sortU l).Pairwise (fun x y => (!ltU y x) = true) := by
  refine List.pairwise_mergeSort (fun a b c h1 h2 => ?_) (fun a b => ?_) l
  · simp only [Bool.not_eq_true'] at *
    cases h : ltU c a with
    | false => rfl
    | true =>
      cases h3 : ltU b a with
      | true => rw [h3] at h1; cases h1
      | false =>
        cases h4 : ltU a b with
        | true => have := ltU_trans h h4; rw [this] at h2; cases h2
        | false => rw [ltU_tri h3 h4] at h2; rw [h] at h2; cases h2
  · cases h3 : ltU b a with
    | false => simp
    | true =>
      cases h4 : ltU a b with
      | false => simp
      | true => have := ltU_trans h3 h4; rw [ltU_irrefl] at this; cases this
theorem sortU_perm {l m : List Uid} (h : l.Perm m) : sortU l = sortU m :=
  sorted_eq ((List.mergeSort_perm l _).trans (h.trans (List.mergeSort_perm m _).symm)) (sortU_sorted l) (sortU_sorted m)

theorem climbM_nodup (ps : Uid → List Uid) : ∀ (f : Nat) (st met : List Uid), met.Nodup → (climbM ps f st met).Nodup
  | 0, st, met, h => h
  | f + 1, [], met, h => h
  | f + 1, u :: st, met, h => by
    simp only [climbM]
    cases hm : met.contains u with
    | true => rw [cond_true]; exact climbM_nodup ps f st met h
    | false =>
      rw [cond_false]
      refine climbM_nodup ps f _ _ ?_
      rw [List.nodup_append]
      refine ⟨h, by simp, fun a ha b hb e => ?_⟩
      simp at hb
      subst hb
      subst e
      have : met.contains a = true := by rw [List.contains_eq_mem]; simpa using ha
      rw [this] at hm
      cases hm

theorem over50 : OverSet L50 (regId (cl (cl L50))) (regId (cl B50)) (regId (cl E50)) 0 1 (regOps (cl (cl L50))) (regOps (cl B50)) (regOps (cl E50)) ((regOps (cl (cl L50))).toList.take 4) ((regOps (cl E50)).toList.drop 1)
    (opAt (regOps (cl (cl L50))) 4) (opAt (regOps (cl B50)) 0) (opAt (regOps (cl B50)) 1) (opAt (regOps (cl E50)) 0) 122 18 19 20 21 22 (cr E50) (cr L50) where
  code := by kernel_rfl
  hops := by kernel_rfl
  hR := ⟨by kernel_rfl, by kernel_rfl, by kernel_rfl⟩
  hopsN := by kernel_rfl
  hN := ⟨by kernel_rfl, by kernel_rfl, by kernel_rfl⟩
  hX := ⟨by kernel_rfl, by kernel_rfl, by kernel_rfl⟩
  hopsE := by kernel_rfl
  hE := ⟨by kernel_rfl, by kernel_rfl, by kernel_rfl⟩
  ne := by decide

theorem climbM_length (ps : Uid → List Uid) : ∀ (f : Nat) (st met : List Uid), (climbM ps f st met).length ≤ met.length + f
  | 0, st, met => Nat.le_refl _
  | f + 1, [], met => Nat.le_add_right _ _
  | f + 1, u :: st, met => by
    simp only [climbM]
    cases hm : met.contains u with
    | true => rw [cond_true]; have := climbM_length ps f st met; omega
    | false => rw [cond_false]; have := climbM_length ps f ((ps u).reverse ++ st) (met ++ [u]); simp at this; omega
theorem climbS_length (els : List (List FV)) (fr : List Uid) : (climbS els fr).length ≤ fuelR els fr := by
  have := climbM_length (psR els) (fuelR els fr) fr.reverse []
  simpa [climbS] using this
/-- Parents in all are not too many. -/
def FewPs (els : List (List FV)) : Prop := (els.map fun x => (slAt x 2).length).sum ≤ 500000
theorem psR_few {els : List (List FV)} (h : FewPs els) (u : Uid) : (psR els u).length ≤ 500000 := by
  unfold psR
  cases hf : foundAt els u with
  | false =>
    have : entAt els u = entF zeroE := by unfold entAt; rw [hf]; rfl
    rw [this]
    simp [slAt, entF, zeroE]
  | true =>
    obtain ⟨h1, _⟩ := entAt_found hf
    have : ∀ (l : List (List FV)) (x : List FV), x ∈ l → (slAt x 2).length ≤ (l.map fun x => (slAt x 2).length).sum := by
      intro l
      induction l with
      | nil => intro x hx; cases hx
      | cons y l ih =>
        intro x hx
        simp only [List.map_cons, List.sum_cons]
        cases hx with
        | head => omega
        | tail _ hx => have := ih x hx; omega
    have := this els _ h1
    unfold FewPs at h
    rw [List.length_map]
    omega
theorem climbS_few {els : List (List FV)} (h : FewPs els) (fr : List Uid) (hfr : fr.length ≤ 500000) : (climbS els fr).length ≤ 1000000 := by
  have := climbS_length els fr
  unfold fuelR FewPs at *
  omega

set_option maxRecDepth 100000 in
theorem above_tr (els : List (List FV)) (u : Uid) (h : EntsOK els) (hf : FewPs els) : FunTr Try.prog 50 [.fz (.sl 4 els), uidV u] [] 0 (fun r1 H1 => snapR H1 r1 = some (.fz (.sl 2 ((aboveS els u).map uidF)))) := by
  have hsz : szB 25 ≤ 100 := by decide +kernel
  have hlen := climbS_few hf (psR els u) (psR_few hf u)
  obtain ⟨hs1, hs2⟩ := slAt_ps h u
  refine fun_of_tr Try.func50 (c := bodyOf Try.f50) (by kernel_rfl) (Nat.le_refl _) ?_
  refine tr_pre Γa_ok Δa_ok 3 (hs := []) (ks := [0, 5, 7]) (kills := []) (N := 4) (ts := sp 31 [(0, .fz (.sl 4 els)), (5, .ptr 2 0), (7, .own 3)]) (H := H50 u els []) (cs := [EntsOK els]) (by kernel_rfl) ⟨h, trivial⟩ ?_
  refine Tr.overSet T1_ok (acall_ok T1_ok Γa_ok Δa_ok wide 60) wide over50 (k := 25) (e := 4) (by kernel_rfl) (ks := climbS els (psR els u)) (hs0 := []) (kk0 := [0, 7, 18]) (kl0 := []) (N0 := 4)
    (ts0 := sp 31 [(0, .fz (.sl 4 els)), (7, .own 3), (18, .fz (.mp (setEs (climbS els ((slAt (entAt els u) 2).map uidOf))) (climbS els ((slAt (entAt els u) 2).map uidOf)).length))]) (H0 := H50 u els []) (cs0 := [EntsOK els, UidRow (slAt (entAt els u) 2)])
    (by kernel_rfl) ⟨h, ⟨⟨psR els u, hs1⟩, by rw [hs1, List.length_map]; exact hs2⟩, trivial⟩ rfl (fun L r st => ∃ x, st = stOf (sp 31 [(0, .fz (.sl 4 els)), (7, .own 3), (18, x), (19, itV r)]) (H50 u els L) 0) ?_ ?_ ?_ ?_
  · intro r; exact ⟨_, rfl⟩
  · rintro L r st ⟨x, rfl⟩
    exact ⟨by kernel_rfl, by show 20 < 31; decide, by show 21 < 31; decide⟩
  · rintro L r st v ⟨x, rfl⟩ hL hv
    obtain ⟨a, b⟩ := v
    have hto : aopsTo Try.prog T1 (acall Try.prog T1 Γa Δa 60) (regOps (cl E50)) ((regOps (cl E50)).toList.drop 1) { (stOf (sp 31 [(0, .fz (.sl 4 els)), (7, .own 3), (18, x), (19, itV r)]) (H50 u els L) 0) with tmps := putT (putT (putT (stOf (sp 31 [(0, .fz (.sl 4 els)), (7, .own 3), (18, x), (19, itV r)]) (H50 u els L) 0).tmps (some 20) (.tup [.boo true, uidV (a, b), .boo true])) (some 21) (.boo true)) (some 22) (.tup [uidV (a, b), .boo true]) } [] [0, 7, 8, 19] [] 5 =
      some (sp 31 [(0, .fz (.sl 4 els)), (7, .own 3), (8, .ptr 4 0), (19, itV r)], H50 u els L ++ [some (.var 25 [.str a, .str b])], []) := by kernel_rfl
    refine ⟨_, _, _, _, _, _, _, hto, trivial, ?_⟩
    have hrun : rT Γa Δa (cr E50) (stOf (sp 31 [(0, .fz (.sl 4 els)), (7, .own 3), (8, .ptr 4 0), (19, itV r)]) (H50 u els L ++ [some (.var 25 [.str a, .str b])]) 0) [.ok] [0, 7, 19] [] 4 =
      some (.normal, sp 31 [(0, .fz (.sl 4 els)), (7, .own 3), (19, itV r)], [some (.var 25 [.str u.1, .str u.2]), some (.row 25 2 []), some (.var 29 [.str (strAt (entAt els u) 0), .str (strAt (entAt els u) 1), .fz (.sl 2 (slAt (entAt els u) 2)), .fz (.sl 8 (slAt (entAt els u) 3))]), some (.row 25 2 (L.map uidF ++ [[.str a, .str b]]))],
        [((L.map uidF).length + 1) * szB 25 ≤ 140737488355328 ∧ (L.map uidF).length + 1 ≤ 140737488355328]) := by kernel_rfl
    refine tr_run Γa_ok Δa_ok hrun ⟨?_, trivial⟩ ⟨rfl, .junk, ?_⟩
    · rw [List.length_map]
      have h1 : L.length + 1 ≤ 1000001 := by omega
      have := Nat.mul_le_mul h1 hsz
      omega
    · have : (L ++ [(a, b)]).map uidF = L.map uidF ++ [[.str a, .str b]] := by simp
      rw [← this]
      rfl
  · rintro L r st ⟨x, rfl⟩ hp
    have hrun : rT Γa Δa (cr L50) { (stOf (sp 31 [(0, .fz (.sl 4 els)), (7, .own 3), (18, x), (19, itV r)]) (H50 u els L) 0) with tmps := putT (putT (stOf (sp 31 [(0, .fz (.sl 4 els)), (7, .own 3), (18, x), (19, itV r)]) (H50 u els L) 0).tmps (some 20) (.tup [.boo false])) (some 21) (.boo false) } [] [4] [] 4 =
      some (.ret, sp 31 [(4, .own 3)], [some (.var 25 [.str u.1, .str u.2]), some (.row 25 2 []), some (.var 29 [.str (strAt (entAt els u) 0), .str (strAt (entAt els u) 1), .fz (.sl 2 (slAt (entAt els u) 2)), .fz (.sl 8 (slAt (entAt els u) 3))]), some (.row 25 2 ((sortU ((L.map uidF).map uidOf)).map uidF))], [UidRow (L.map uidF)]) := by kernel_rfl
    refine tr_run Γa_ok Δa_ok hrun ⟨⟨⟨L, rfl⟩, ?_⟩, trivial⟩ ⟨.own 3, by kernel_rfl, ?_⟩
    · rw [List.length_map, hp.length_eq]; exact hlen
    · rw [uidOf_map, sortU_perm hp]
      rfl
theorem c50 (els : List (List FV)) (u : Uid) (h : EntsOK els) (hf : FewPs els) : PureAt Try.prog 50 [.fz (.sl 4 els), uidV u] (.fz (.sl 2 ((aboveS els u).map uidF))) false := pureAt_of_fun (above_tr els u h hf)

/-! ### Below -/
def Γb : PureT := fun f xs => match f, xs with
  | 28, [.fz (.sl 4 els), .agg [.fz (.sc (.string a)), .fz (.sc (.string b))], .agg [.fz (.sc (.string c)), .fz (.sc (.string d))]] => some (.boo (inB els (a, b) (c, d)), true, [EntsOK els])
  | _, _ => none
theorem Γb_ok : PureOK Try.prog Γb := by
  intro f xs r fresh c hg hc
  unfold Γb at hg
  split at hg
  · cases hg; exact c28 _ (_, _) (_, _) hc.1
  · cases hg
def isBelow (els : List (List FV)) (u v : Uid) : Bool := !(v.1 == u.1 && v.2 == u.2) && inB els v u
def belowN (els : List (List FV)) (u : Uid) (i : Nat) : List Uid := ((els.take i).map uidOf).filter (isBelow els u)
def belowS (els : List (List FV)) (u : Uid) : List Uid := (els.map uidOf).filter (isBelow els u)

noncomputable abbrev L27 : Code := post 2 (bodyOf Try.f27)
noncomputable abbrev B27 : Code := cb (cb (cr (cl L27)))
abbrev H27 (u : Uid) (out : List (List FV)) : AHeap := [some (.var 25 [.str u.1, .str u.2]), some (.row 25 2 []), some (.row 25 2 out)]
abbrev S27 (els : List (List FV)) (u : Uid) (out : List (List FV)) (i : Int) : St := stOf (sp 32 [(0, .fz (.sl 4 els)), (3, .ptr 0 0), (5, .own 2), (8, .fz (.sl 4 els)), (9, .int els.length), (10, .int i)]) (H27 u out) 0

theorem belowN_succ {els : List (List FV)} {u : Uid} {i : Nat} {x : List FV} (h : els[i]? = some x) : belowN els u (i + 1) = belowN els u i ++ (if isBelow els u (uidOf x) then [uidOf x] else []) := by
  unfold belowN
  rw [List.take_add_one, h]
  simp only [Option.toList, List.map_append, List.filter_append, List.map_cons, List.map_nil, List.filter_cons, List.filter_nil]
theorem belowN_length (els : List (List FV)) (u : Uid) (i : Nat) : (belowN els u i).length ≤ els.length := by
  unfold belowN
  refine Nat.le_trans (List.length_filter_le _ _) ?_
  simp
  omega

set_option maxRecDepth 100000 in
theorem below_tr (els : List (List FV)) (u : Uid) (h : EntsOK els) : FunTr Try.prog 27 [.fz (.sl 4 els), uidV u] [] 0 (fun r1 H1 => snapR H1 r1 = some (.fz (.sl 2 ((belowS els u).map uidF)))) := by
  have hsz : szB 25 ≤ 100 := by decide +kernel
  have hl : els.length ≤ 1000000 := h.uids.2
  refine fun_of_tr Try.func27 (c := bodyOf Try.f27) (by kernel_rfl) (Nat.le_refl _) ?_
  refine tr_pre Γb_ok Δnil_ok 2 (hs := []) (ks := [0, 3, 5]) (kills := []) (N := 3) (ts := sp 32 [(0, .fz (.sl 4 els)), (3, .ptr 0 0), (5, .own 2)]) (H := H27 u []) (cs := []) (by kernel_rfl) trivial ?_
  refine Tr.rangeAt (fun (i : Nat) s => s = S27 els u ((belowN els u i).map uidF) i ∧ i ≤ els.length) (fun i => els.length - i) (fun s => s = S27 els u ((belowS els u).map uidF) els.length) (id := 0) (A := cl (cl L27)) (B := B27) (C := cr L27) (by kernel_rfl) ?_ ?_ ?_
  · have hrun : rT Γb Δnil (cl (cl L27)) (stOf (sp 32 [(0, .fz (.sl 4 els)), (3, .ptr 0 0), (5, .own 2)]) (H27 u []) 0) [] [0, 3, 5, 8, 9, 10] [] 3 = some (.normal, (S27 els u [] 0).tmps, H27 u [], []) := by kernel_rfl
    exact tr_run Γb_ok Δnil_ok hrun trivial ⟨rfl, 0, rfl, Nat.zero_le _⟩
  · rintro i s ⟨rfl, hi⟩
    by_cases hlt : i < els.length
    · have hw : IntKind.i64.wrap ((i : Int) + 1) = ((i + 1 : Nat) : Int) := by rw [IntWalk.i64_in _ (by omega)]; omega
      have hd : decide ((i : Int) < (els.length : Int)) = true := by rw [decide_eq_true_iff]; omega
      obtain ⟨l, hle, hlo, _⟩ := h
      have hget : els[i]? = some els[i] := List.getElem?_eq_getElem hlt
      have hmem : els[i] ∈ l.map entF := by rw [← hle]; exact List.getElem_mem hlt
      obtain ⟨e, he, heq⟩ := List.mem_map.1 hmem
      rw [← heq] at hget
      have hs := belowN_succ (u := u) hget
      have hbl := belowN_length els u i
      generalize hN : belowN els u i = out at hs hbl
      obtain ⟨v, ps, ats⟩ := e
      have hx : uidOf (entF ⟨v, ps, ats⟩) = v := rfl
      rw [hx] at hs
      have hc1 : 0 ≤ (i : Int) ∧ els[((i : Int)).toNat]? = some (entF ⟨v, ps, ats⟩) := ⟨by omega, by rw [Int.toNat_natCast]; exact hget⟩
      have hE : EntsOK els := ⟨l, hle, hlo, by assumption⟩
      cases hne : (v.1 == u.1 && v.2 == u.2) with
      | true =>
        have hrun : rT Γb Δnil B27 (S27 els u (out.map uidF) i) [.br true, .el (entF ⟨v, ps, ats⟩), .is .neq (.bool false)] [0, 3, 5, 8, 9, 10] [] 3 = some (.normal, (S27 els u (out.map uidF) (IntKind.i64.wrap ((i : Int) + 1))).tmps, H27 u (out.map uidF),
          [Value.bool (!(v.1 == u.1 && v.2 == u.2)) = .bool false, 0 ≤ (i : Int) ∧ els[((i : Int)).toNat]? = some (entF ⟨v, ps, ats⟩), decide ((i : Int) < (els.length : Int)) = true]) := by kernel_rfl
        refine tr_run Γb_ok Δnil_ok hrun ⟨by rw [hne]; rfl, hc1, hd, trivial⟩ ⟨i + 1, ⟨?_, by omega⟩, by show els.length - (i + 1) < els.length - i; omega⟩
        rw [hw, hs]
        simp only [isBelow, hne, Bool.not_true, Bool.false_and, Bool.false_eq_true, if_false, List.append_nil]
        rfl
      | false =>
        cases hin : inB els v u with
        | false =>
          have hrun : rT Γb Δnil B27 (S27 els u (out.map uidF) i) [.br true, .el (entF ⟨v, ps, ats⟩), .is .neq (.bool true), .br true, .br false] [0, 3, 5, 8, 9, 10] [] 3 = some (.normal, (S27 els u (out.map uidF) (IntKind.i64.wrap ((i : Int) + 1))).tmps, H27 u (out.map uidF),
            [inB els (v.1, v.2) (u.1, u.2) = false, true = true, EntsOK els, Value.bool (!(v.1 == u.1 && v.2 == u.2)) = .bool true, 0 ≤ (i : Int) ∧ els[((i : Int)).toNat]? = some (entF ⟨v, ps, ats⟩), decide ((i : Int) < (els.length : Int)) = true]) := by kernel_rfl
          refine tr_run Γb_ok Δnil_ok hrun ⟨hin, rfl, hE, by rw [hne]; rfl, hc1, hd, trivial⟩ ⟨i + 1, ⟨?_, by omega⟩, by show els.length - (i + 1) < els.length - i; omega⟩
          rw [hw, hs]
          simp only [isBelow, hin, Bool.and_false, Bool.false_eq_true, if_false, List.append_nil]
          rfl
        | true =>
          have hrun : rT Γb Δnil B27 (S27 els u (out.map uidF) i) [.br true, .el (entF ⟨v, ps, ats⟩), .is .neq (.bool true), .br true, .br true, .ok] [0, 3, 5, 8, 9, 10] [] 3 = some (.normal, (S27 els u (out.map uidF) (IntKind.i64.wrap ((i : Int) + 1))).tmps, H27 u (out.map uidF ++ [uidF v]),
            [((out.map uidF).length + 1) * szB 25 ≤ 140737488355328 ∧ (out.map uidF).length + 1 ≤ 140737488355328, inB els (v.1, v.2) (u.1, u.2) = true, true = true, EntsOK els, Value.bool (!(v.1 == u.1 && v.2 == u.2)) = .bool true, 0 ≤ (i : Int) ∧ els[((i : Int)).toNat]? = some (entF ⟨v, ps, ats⟩), decide ((i : Int) < (els.length : Int)) = true]) := by kernel_rfl
          refine tr_run Γb_ok Δnil_ok hrun ⟨?_, hin, rfl, hE, by rw [hne]; rfl, hc1, hd, trivial⟩ ⟨i + 1, ⟨?_, by omega⟩, by show els.length - (i + 1) < els.length - i; omega⟩
          · rw [List.length_map]
            have h1 : out.length + 1 ≤ 1000001 := by omega
            have := Nat.mul_le_mul h1 hsz
            omega
          · rw [hw, hs]
            simp only [isBelow, hin, hne, Bool.not_false, Bool.and_true, if_true, List.map_append, List.map_cons, List.map_nil]
            rfl
    · have hi' : i = els.length := by omega
      subst hi'
      have hd : decide (((els.length : Nat) : Int) < (els.length : Int)) = false := by rw [decide_eq_false_iff_not]; omega
      generalize hN : belowN els u els.length = out
      have hrun : rT Γb Δnil B27 (S27 els u (out.map uidF) els.length) [.br false] [0, 3, 5, 8, 9, 10] [] 3 = some (.exit 0, (S27 els u (out.map uidF) els.length).tmps, H27 u (out.map uidF), [decide (((els.length : Nat) : Int) < (els.length : Int)) = false]) := by kernel_rfl
      refine tr_run Γb_ok Δnil_ok hrun ⟨hd, trivial⟩ ⟨rfl, ?_⟩
      have : belowS els u = out := by rw [← hN]; unfold belowN belowS; rw [List.take_length]
      rw [this]
      rfl
  · rintro t rfl _
    generalize belowS els u = out
    have hrun : rT Γb Δnil (cr L27) (S27 els u (out.map uidF) els.length) [] [4] [] 3 = some (.ret, sp 32 [(4, .own 2)], H27 u (out.map uidF), []) := by kernel_rfl
    exact tr_run Γb_ok Δnil_ok hrun trivial ⟨.own 2, by kernel_rfl, rfl⟩
theorem c27 (els : List (List FV)) (u : Uid) (h : EntsOK els) : PureAt Try.prog 27 [.fz (.sl 4 els), uidV u] (.fz (.sl 2 ((belowS els u).map uidF))) false := pureAt_of_fun (below_tr els u h)
end Go.Proofs.Ai
