/- The walk of: a row of parents makes a circle just if the one who would have them were then above itself. -/
import Derived.Test.YtfjjeijkbhcoaaaAbCircLaw
import Derived.Test.YtfjjeijkbhcoaaaAbPick
import Derived.Test.YtfjjeijkbhcoaaaAbBelow
set_option linter.unusedVariables false
set_option linter.unusedSimpArgs false
namespace Go.Proofs.Ai
open Go

def Γc9 (es : List EntR) (u : Uid) (ps : List Uid) : PureT := fun f xs => match f, xs with
  | 24, [] => some (.boo true, true, [])
  | 25, [.fz (.sl 5 L)] => some (.fz (.sl 4 ((goodE es).map entF)), false, [L = es.map entRF])
  | 49, [.fz (.sl 4 G), .fz (.sc (.int .i64 n))] => some (uidV (pickU (goodE es) n), false, [G = (goodE es).map entF])
  | 35, [.fz (.sl 4 G), .agg [.fz (.sc (.string a)), .fz (.sc (.string b)), .fz (.sl 2 P), .fz (.sc (.slice none 0 0))]] => some (.fz (.sl 4 ((putE (goodE es) ⟨u, ps, []⟩).map entF)), false, [G = (goodE es).map entF ∧ (a, b) = u ∧ P = ps.map uidF])
  | 50, [.fz (.sl 4 els), .agg [.fz (.sc (.string a)), .fz (.sc (.string b))]] => some (.fz (.sl 2 ((aboveS els (a, b)).map uidF)), false, [EntsOK els, FewPs els])
  | 51, [.fz (.sl 4 els), .agg [.fz (.sc (.string a)), .fz (.sc (.string b))], .fz (.sl 2 P)] => some (.boo (circS els (a, b) (P.map uidOf)), true, [EntsOK els ∧ UidRow P])
  | _, _ => none
theorem Γc9_ok (es : List EntR) (u : Uid) (ps : List Uid) : PureOK Try.prog (Γc9 es u ps) := by
  intro f xs r fresh c hg hc
  have hfine := goodE_fine es
  unfold Γc9 at hg
  split at hg
  · cases hg; exact c24
  · cases hg
    obtain ⟨rfl, _⟩ := hc
    exact c25 es
  · cases hg
    obtain ⟨rfl, _⟩ := hc
    exact c49 _ _ (by have := hfine.len; omega) (fun e he => by have := (hfine.fit e he).1; omega)
  · cases hg
    rename_i G a b P
    obtain ⟨⟨rfl, hu, rfl⟩, _⟩ := hc
    have := c35 (goodE es) ⟨u, ps, []⟩ (by have := hfine.len; omega)
    refine this.wk rfl (fun i x y hx hy => ?_)
    match i with
    | 0 => simp at hx hy; subst hx; subst hy; exact FW.refl _
    | 1 =>
      simp only [List.getElem?_cons_succ, List.getElem?_cons_zero, Option.some.injEq] at hx hy
      subst hx
      subst hy
      rw [← hu]
      refine ⟨rfl, fun i x y hx hy => ?_⟩
      match i with
      | 0 => simp at hx hy; subst hx; subst hy; exact ⟨_, _, rfl, rfl, .refl _⟩
      | 1 => simp at hx hy; subst hx; subst hy; exact ⟨_, _, rfl, rfl, .refl _⟩
      | 2 => simp at hx hy; subst hx; subst hy; exact ⟨_, _, rfl, rfl, .refl _⟩
      | 3 => simp at hx hy; subst hx; subst hy; exact ⟨_, _, rfl, rfl, .nilSl _ _ _⟩
      | i + 4 => simp at hx
    | i + 2 => simp at hx
  · cases hg; exact c50 _ (_, _) hc.1 hc.2.1
  · cases hg
    obtain ⟨⟨h1, ⟨l, rfl⟩, h2⟩, _⟩ := hc
    rw [uidOf_map]
    exact c51 _ (_, _) l h1 (by simpa using h2)
  · cases hg
noncomputable abbrev L10 : Code := post 5 (bodyOf Try.f10)
noncomputable abbrev B10 : Code := cb (cb (cr (cl L10)))
noncomputable abbrev M10 : Code := cr L10
noncomputable abbrev N10 : Code := post 3 M10
noncomputable abbrev C10 : Code := cb (cb (cr (cl N10)))
abbrev H10 (u : Uid) (ups : List (List FV)) : AHeap := [some (.var 25 [.str u.1, .str u.2]), some (.var 29 [.str u.1, .str u.2, .own 2, .fz nilF0]), some (.row 25 2 ups)]
abbrev H10z (u : Uid) (ups : List (List FV)) : AHeap := [some (.var 25 [.str u.1, .str u.2]), some (.var 29 [.str u.1, .str u.2, .fz (.sl 2 ups), .fz nilF0])]
abbrev S10 (G P : List (List FV)) (u : Uid) (ups : List (List FV)) (i : Int) : St := stOf (sp 73 [(2, .fz (.sl 1 P)), (7, .fz (.sl 4 G)), (8, .ptr 0 0), (9, .ptr 1 0), (10, .int i)]) (H10 u ups) 0
abbrev S10z (G : List (List FV)) (u : Uid) (ups : List (List FV)) : St := stOf (sp 73 [(7, .fz (.sl 4 G)), (8, .ptr 0 0), (9, .ptr 1 0)]) (H10z u ups) 0
abbrev S10y (G X : List (List FV)) (u : Uid) (ups : List (List FV)) : St := stOf (sp 73 [(7, .fz (.sl 4 G)), (8, .ptr 0 0), (9, .ptr 1 0), (12, .boo false), (13, .fz (.sl 2 X))]) (H10z u ups) 0
abbrev S10b (G X : List (List FV)) (u : Uid) (ups : List (List FV)) (b : Bool) (i : Int) : St := stOf (sp 73 [(7, .fz (.sl 4 G)), (8, .ptr 0 0), (9, .ptr 1 0), (12, .boo b), (13, .fz (.sl 2 X)), (14, .int i)]) (H10z u ups) 0
abbrev post10 : AExit → St → Prop := retPost Try.prog Try.f10 (fun r1 H1 => snapR H1 r1 = some (.boo true))

set_option maxRecDepth 100000 in
theorem ends10 (es : List EntR) (u : Uid) (ps : List Uid) (hp : ps.length ≤ 4) : Tr Try.prog M10 (S10z ((goodE es).map entF) u (ps.map uidF)) post10 := by
  have hΓ := Γc9_ok es u ps
  have hfine := goodE_fine es
  have hlaw := circle_law hfine.srt u ps
  have hE := goodE_ents es
  have hupl : UidRow (ps.map uidF) := ⟨⟨ps, rfl⟩, by simp; omega⟩
  have hmem : ∀ e ∈ putE (goodE es) ⟨u, ps, []⟩, e.ps.length ≤ 4 ∧ entOK e := fun e he => by
    rcases putE_mem he with he | rfl
    · exact ⟨by have := (hfine.fit e he).1; omega, (hfine.fit e he).ok⟩
    · exact ⟨hp, by show ps.length ≤ 1000000; omega, by simp, fun a ha => by cases ha⟩
  have hnl := putE_length (goodE es) ⟨u, ps, []⟩
  have hE2 : EntsOK ((putE (goodE es) ⟨u, ps, []⟩).map entF) := ⟨_, rfl, fun e he => (hmem e he).2, by have := hfine.len; omega⟩
  have hF2 : FewPs ((putE (goodE es) ⟨u, ps, []⟩).map entF) := by
    unfold FewPs
    have : ∀ l : List EntD, (∀ e ∈ l, e.ps.length ≤ 4) → ((l.map entF).map fun x => (slAt x 2).length).sum ≤ l.length * 4 := by
      intro l
      induction l with
      | nil => intro _; simp
      | cons e r ih =>
        intro hl
        have h1 := ih (fun e he => hl e (List.mem_cons_of_mem _ he))
        have h2 := hl e List.mem_cons_self
        have h3 : (slAt (entF e) 2).length = e.ps.length := by show (e.ps.map uidF).length = _; simp
        simp only [List.map_cons, List.sum_cons, h3, List.length_cons]
        omega
    have h1 := this _ (fun e he => (hmem e he).1)
    have h2 := hfine.len
    omega
  have hal : (aboveS ((putE (goodE es) ⟨u, ps, []⟩).map entF) u).length ≤ 1000000 := by
    unfold aboveS
    rw [sortU_length]
    exact climbS_few hF2 _ (psR_few hF2 u)
  have hcond : (goodE es).map entF = (goodE es).map entF ∧ (u.1, u.2) = u ∧ ps.map uidF = ps.map uidF := ⟨rfl, rfl, rfl⟩
  have hids := uidOf_map ps
  generalize hG : (goodE es).map entF = G at hlaw hE hcond
  generalize hU : ps.map uidF = U at hupl hcond hids
  have hpre : rT (Γc9 es u ps) Δnil (pre 3 M10) (S10z G u U) [] [7, 8, 9, 12, 13] [] 2 = some (.normal, (S10y G ((aboveS ((putE (goodE es) ⟨u, ps, []⟩).map entF) (u.1, u.2)).map uidF) u U).tmps, H10z u U,
    [EntsOK ((putE (goodE es) ⟨u, ps, []⟩).map entF), FewPs ((putE (goodE es) ⟨u, ps, []⟩).map entF), G = (goodE es).map entF ∧ (u.1, u.2) = u ∧ U = ps.map uidF]) := by kernel_rfl
  refine tr_pre hΓ Δnil_ok 3 hpre ⟨hE2, hF2, ⟨hG.symm, rfl, hU.symm⟩, trivial⟩ ?_
  show Tr Try.prog N10 (S10y G ((aboveS ((putE (goodE es) ⟨u, ps, []⟩).map entF) u).map uidF) u U) post10
  generalize aboveS ((putE (goodE es) ⟨u, ps, []⟩).map entF) u = xs at hal hlaw
  have hXl : (xs.map uidF).length = xs.length := by simp
  have hXg : ∀ (j : Nat) x, xs[j]? = some x → (xs.map uidF)[j]? = some (uidF x) := fun j x h => by rw [List.getElem?_map, h]; rfl
  generalize xs.map uidF = X at hXl hXg
  refine Tr.rangeAt (fun (k : Nat) t => t = S10b G X u U (anyU xs u k) k ∧ k ≤ xs.length) (fun k => xs.length - k) (fun t => t = S10b G X u U (anyU xs u xs.length) xs.length) (id := 2) (A := cl (cl N10)) (B := C10) (C := cr N10) (by kernel_rfl)
    (tr_run hΓ Δnil_ok (hs := []) (ks := [7, 8, 9, 12, 13, 14]) (kills := []) (N := 2) (e := .normal) (ts := (S10b G X u U false 0).tmps) (H := H10z u U) (cs := []) (by kernel_rfl) trivial ⟨rfl, 0, rfl, Nat.zero_le _⟩) ?_ ?_
  · rintro k t ⟨rfl, hi⟩
    by_cases hlt : k < xs.length
    · have hx : xs[k]? = some xs[k] := List.getElem?_eq_getElem hlt
      generalize xs[k] = v at hx
      have hs := anyU_succ (v := u) hx
      have hd : decide ((k : Int) < (X.length : Int)) = true := by rw [decide_eq_true_iff]; omega
      have hcx : 0 ≤ (k : Int) ∧ X[(k : Int).toNat]? = some (uidF v) := ⟨by omega, by rw [Int.toNat_natCast]; exact hXg k v hx⟩
      cases hb : anyU xs u k with
      | true =>
        rw [hb, Bool.true_or] at hs
        have hrun : rT (Γc9 es u ps) Δnil C10 (S10b G X u U true k) [.br true] [7, 8, 9, 12, 13, 14] [] 2 = some (.normal, (S10b G X u U true (IntKind.i64.wrap ((k : Int) + 1))).tmps, H10z u U, [decide ((k : Int) < (X.length : Int)) = true]) := by kernel_rfl
        refine tr_run hΓ Δnil_ok hrun ⟨hd, trivial⟩ ⟨k + 1, ⟨?_, by omega⟩, by show xs.length - (k + 1) < xs.length - k; omega⟩
        rw [step1 (by omega), hs]; rfl
      | false =>
        rw [hb, Bool.false_or] at hs
        have hrun : rT (Γc9 es u ps) Δnil C10 (S10b G X u U false k) [.br true, .el (uidF v)] [7, 8, 9, 12, 13, 14] [] 2 = some (.normal, (S10b G X u U (v.1 == u.1 && v.2 == u.2) (IntKind.i64.wrap ((k : Int) + 1))).tmps, H10z u U, [0 ≤ (k : Int) ∧ X[(k : Int).toNat]? = some (uidF v), decide ((k : Int) < (X.length : Int)) = true]) := by kernel_rfl
        refine tr_run hΓ Δnil_ok hrun ⟨hcx, hd, trivial⟩ ⟨k + 1, ⟨?_, by omega⟩, by show xs.length - (k + 1) < xs.length - k; omega⟩
        rw [step1 (by omega), hs]; rfl
    · have hil : k = xs.length := by omega
      subst hil
      generalize anyU xs u xs.length = b
      have hrun : rT (Γc9 es u ps) Δnil C10 (S10b G X u U b xs.length) [.br false] [7, 8, 9, 12, 13, 14] [] 2 = some (.exit 2, (S10b G X u U b xs.length).tmps, H10z u U, [decide ((xs.length : Int) < (X.length : Int)) = false]) := by kernel_rfl
      exact tr_run hΓ Δnil_ok hrun ⟨by simp; omega, trivial⟩ ⟨rfl, rfl⟩
  · rintro t rfl _
    have hany : anyU xs u xs.length = xs.contains u := by
      unfold anyU
      rw [List.take_length]
      apply Bool.eq_iff_iff.2
      rw [List.any_eq_true, List.contains_eq_mem, decide_eq_true_iff]
      constructor
      · rintro ⟨x, hx, he⟩
        simp only [Bool.and_eq_true, beq_iff_eq] at he
        have : x = u := Prod.ext he.1 he.2
        exact this ▸ hx
      · exact fun h => ⟨u, h, by simp⟩
    have hres : (circS G (u.1, u.2) (U.map uidOf) == anyU xs u xs.length) = true := by
      rw [hids, hany]
      show (circS G u ps == xs.contains u) = true
      rw [hlaw]
      simp
    generalize anyU xs u xs.length = b at hres
    have hrun : rT (Γc9 es u ps) Δnil (cr N10) (S10b G X u U b xs.length) [] [6] [] 2 = some (.ret, sp 73 [(6, .boo (circS G (u.1, u.2) (U.map uidOf) == b))], H10z u U, [EntsOK G ∧ UidRow U]) := by kernel_rfl
    rw [hres] at hrun
    exact tr_run hΓ Δnil_ok hrun ⟨⟨hE, hupl⟩, trivial⟩ ⟨.boo true, by kernel_rfl, by show snapR _ _ = _; kernel_rfl⟩

set_option maxRecDepth 100000 in
theorem parents10 (es : List EntR) (u : Uid) (ms : List Int) {R : AExit → St → Prop} (h : Tr Try.prog M10 (S10z ((goodE es).map entF) u (((ms.take 4).map (pickU (goodE es))).map uidF)) R) :
    Tr Try.prog L10 (stOf (sp 73 [(2, .fz (.sl 1 (ms.map intF))), (7, .fz (.sl 4 ((goodE es).map entF))), (8, .ptr 0 0), (9, .ptr 1 0)]) (H10 u []) 0) R := by
  have hΓ := Γc9_ok es u []
  have hsz : szB 25 ≤ 100 := by decide +kernel
  have hPl : (ms.map intF).length = ms.length := by simp
  have hPg : ∀ (i : Nat) p, ms[i]? = some p → (ms.map intF)[i]? = some [.int p] := fun i p h => by rw [List.getElem?_map, h]; rfl
  generalize ms.map intF = P at hPl hPg
  generalize hG : (goodE es).map entF = G at h
  refine Tr.rangeAt (fun (i : Nat) t => t = S10 G P u (((ms.take i).map (pickU (goodE es))).map uidF) i ∧ i ≤ min ms.length 4) (fun i => min ms.length 4 - i) (fun t => t = S10z G u (((ms.take 4).map (pickU (goodE es))).map uidF)) (id := 0) (A := cl (cl L10)) (B := B10) (C := M10) (by kernel_rfl)
    (tr_run hΓ Δnil_ok (hs := []) (ks := [2, 7, 8, 9, 10]) (kills := []) (N := 3) (e := .normal) (ts := (S10 G P u [] 0).tmps) (H := H10 u []) (cs := []) (by kernel_rfl) trivial ⟨rfl, 0, rfl, Nat.zero_le _⟩) ?_ (fun t ht _ => by rw [ht]; exact h)
  rintro i t ⟨rfl, hi⟩
  by_cases hlt : i < ms.length
  · have hd := boolT (show (i : Int) < (P.length : Int) by omega)
    by_cases h4 : i < 4
    · have hd4 := boolT (show (i : Int) < 4 by omega)
      have hx : ms[i]? = some ms[i] := List.getElem?_eq_getElem hlt
      generalize ms[i] = m at hx
      have hs : (((ms.take (i + 1)).map (pickU (goodE es))).map uidF) = (((ms.take i).map (pickU (goodE es))).map uidF) ++ [uidF (pickU (goodE es) m)] := by rw [List.take_add_one, hx]; simp
      have hol : (((ms.take i).map (pickU (goodE es))).map uidF).length ≤ 4 := by simp; omega
      generalize ((ms.take i).map (pickU (goodE es))).map uidF = out at hs hol
      have hc : 0 ≤ (i : Int) ∧ P[(i : Int).toNat]? = some [.int m] := ⟨by omega, by rw [Int.toNat_natCast]; exact hPg i m hx⟩
      have hrun : rT (Γc9 es u []) Δnil B10 (S10 G P u out i) [.is .lss (.bool true), .is .lss (.bool true), .el [.int m], .ok] [2, 7, 8, 9, 10] [] 3 = some (.normal, (S10 G P u out (IntKind.i64.wrap ((i : Int) + 1))).tmps, H10 u (out ++ [uidF (pickU (goodE es) m)]),
        [(out.length + 1) * szB 25 ≤ 140737488355328 ∧ out.length + 1 ≤ 140737488355328, G = (goodE es).map entF, 0 ≤ (i : Int) ∧ P[(i : Int).toNat]? = some [.int m], Value.bool (decide ((i : Int) < 4)) = .bool true, Value.bool (decide ((i : Int) < (P.length : Int))) = .bool true]) := by kernel_rfl
      refine tr_run hΓ Δnil_ok hrun ⟨?_, hG.symm, hc, hd4, hd, trivial⟩ ⟨i + 1, ⟨?_, by omega⟩, by show min ms.length 4 - (i + 1) < min ms.length 4 - i; omega⟩
      · have := Nat.mul_le_mul (show out.length + 1 ≤ 5 by omega) hsz
        omega
      · rw [step1 (by omega), hs]; rfl
    · have hi4 : i = 4 := by omega
      subst hi4
      generalize ((ms.take 4).map (pickU (goodE es))).map uidF = out
      have hrun : rT (Γc9 es u []) Δnil B10 (S10 G P u out (4 : Nat)) [.is .lss (.bool true), .is .lss (.bool false)] [7, 8, 9] [2] 2 = some (.exit 0, (S10z G u out).tmps, H10z u out, [Value.bool (decide (((4 : Nat) : Int) < 4)) = .bool false, Value.bool (decide (((4 : Nat) : Int) < (P.length : Int))) = .bool true]) := by kernel_rfl
      exact tr_run hΓ Δnil_ok hrun ⟨by simp, hd, trivial⟩ ⟨rfl, rfl⟩
  · have hil : i = ms.length := by omega
    have hd := boolF (show ¬ (i : Int) < (P.length : Int) by omega)
    have ht : ms.take i = ms.take 4 := by rw [hil, List.take_length, List.take_of_length_le (by omega)]
    rw [ht]
    generalize ((ms.take 4).map (pickU (goodE es))).map uidF = out
    have hrun : rT (Γc9 es u []) Δnil B10 (S10 G P u out i) [.is .lss (.bool false)] [7, 8, 9] [2] 2 = some (.exit 0, (S10z G u out).tmps, H10z u out, [Value.bool (decide ((i : Int) < (P.length : Int))) = .bool false]) := by kernel_rfl
    exact tr_run hΓ Δnil_ok hrun ⟨hd, trivial⟩ ⟨rfl, rfl⟩

set_option maxRecDepth 100000 in
theorem c10 (es : List EntR) (n : Int) (ms : List Int) : PureAt Try.prog 10 [.fz (.sl 5 (es.map entRF)), .int n, .fz (.sl 1 (ms.map intF))] (.boo true) true := by
  refine PureAt.scalar (pureAt_of_fun (fun_of_tr Try.func10 (c := bodyOf Try.f10) (by kernel_rfl) (Nat.le_refl _) ?_))
  have hgo := parents10 es (pickU (goodE es) n) ms (ends10 es (pickU (goodE es) n) ((ms.take 4).map (pickU (goodE es))) (by simp; omega))
  have hΓ := Γc9_ok es (pickU (goodE es) n) []
  generalize hu : pickU (goodE es) n = u at hgo
  generalize ms.map intF = P at hgo
  generalize hL : es.map entRF = L
  generalize hG : (goodE es).map entF = G at hgo
  have hpre : rT (Γc9 es (pickU (goodE es) n) []) Δnil (pre 5 (bodyOf Try.f10)) (startSt Try.f10 [.fz (.sl 5 L), .int n, .fz (.sl 1 P)] [] 0) [] [2, 7, 8, 9] [] 2 = some (.normal, sp 73 [(2, .fz (.sl 1 P)), (7, .fz (.sl 4 ((goodE es).map entF))), (8, .ptr 0 0), (9, .ptr 1 0)],
    [some (.var 25 [.str (pickU (goodE es) n).1, .str (pickU (goodE es) n).2]), some (.var 29 [.str (pickU (goodE es) n).1, .str (pickU (goodE es) n).2, .fz nilF0, .fz nilF0])], [(goodE es).map entF = (goodE es).map entF, L = es.map entRF]) := by kernel_rfl
  refine tr_pre hΓ Δnil_ok 5 hpre ⟨rfl, hL.symm, trivial⟩ ?_
  rw [hu, hG]
  exact Tr.view (View.adopt (v := 1) (j := 2) (ty := 25) (sz := 2) (s' := stOf (sp 73 [(2, .fz (.sl 1 P)), (7, .fz (.sl 4 G)), (8, .ptr 0 0), (9, .ptr 1 0)]) (H10 u []) 0) (by kernel_rfl)) hgo
end Go.Proofs.Ai
