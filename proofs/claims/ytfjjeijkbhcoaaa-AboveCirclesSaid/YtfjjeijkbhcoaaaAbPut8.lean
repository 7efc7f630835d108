/- Contracts: the reference drops an entity, and puts one. -/
import Derived.Test.YtfjjeijkbhcoaaaAbEntity
import Derived.Test.YtfjjeijkbhcoaaaAbSeek
set_option linter.unusedVariables false
set_option linter.unusedSimpArgs false
namespace Go.Proofs.Ai
open Go

def dropE (l : List EntD) (u : Uid) : List EntD := l.filter fun x => !(x.u.1 == u.1 && x.u.2 == u.2)
def putE (l : List EntD) (e : EntD) : List EntD := (dropE l e.u).take (seekI (fun x => ltU x.u e.u) (dropE l e.u)) ++ e :: (dropE l e.u).drop (seekI (fun x => ltU x.u e.u) (dropE l e.u))
theorem dropE_succ (l : List EntD) (u : Uid) (i : Nat) (x : EntD) (h : l[i]? = some x) : dropE (l.take (i + 1)) u = dropE (l.take i) u ++ (if !(x.u.1 == u.1 && x.u.2 == u.2) then [x] else []) := by
  unfold dropE
  rw [List.take_add_one, h]
  simp only [Option.toList, List.filter_append, List.filter_cons, List.filter_nil]
theorem dropE_length (l : List EntD) (u : Uid) : (dropE l u).length ≤ l.length := List.length_filter_le _ _

noncomputable abbrev L39 : Code := post 2 (bodyOf Try.f39)
noncomputable abbrev B39 : Code := cb (cb (cr (cl L39)))
abbrev H39 (u : Uid) (out : List (List FV)) : AHeap := [some (.var 25 [.str u.1, .str u.2]), some (.row 29 4 []), some (.row 29 4 out)]
abbrev S39 (X : List (List FV)) (u : Uid) (out : List (List FV)) (i : Int) : St := stOf (sp 28 [(0, .fz (.sl 4 X)), (3, .ptr 0 0), (5, .own 2), (6, .int i)]) (H39 u out) 0
set_option maxRecDepth 100000 in
theorem c39 (l : List EntD) (u : Uid) (hl : l.length ≤ 1000) : PureAt Try.prog 39 [.fz (.sl 4 (l.map entF)), uidV u] (.fz (.sl 4 ((dropE l u).map entF))) false := by
  have hsz : szB 29 ≤ 1000 := by decide +kernel
  have hXl : (l.map entF).length = l.length := by simp
  have hXg : ∀ (i : Nat) x, l[i]? = some x → (l.map entF)[i]? = some (entF x) := fun i x h => by rw [List.getElem?_map, h]; rfl
  generalize l.map entF = X at hXl hXg
  refine pureAt_of_fun (fun_of_tr Try.func39 (c := bodyOf Try.f39) (by kernel_rfl) (Nat.le_refl _) ?_)
  refine tr_pre Γnil_ok Δnil_ok 2 (hs := []) (ks := [0, 3, 5]) (kills := []) (N := 3) (ts := sp 28 [(0, .fz (.sl 4 X)), (3, .ptr 0 0), (5, .own 2)]) (H := H39 u []) (cs := []) (by kernel_rfl) trivial ?_
  refine Tr.rangeAt (fun (i : Nat) t => t = S39 X u ((dropE (l.take i) u).map entF) i ∧ i ≤ l.length) (fun i => l.length - i) (fun t => t = S39 X u ((dropE l u).map entF) l.length) (id := 0) (A := cl (cl L39)) (B := B39) (C := cr L39) (by kernel_rfl)
    (tr_run Γnil_ok Δnil_ok (hs := []) (ks := [0, 3, 5, 6]) (kills := []) (N := 3) (e := .normal) (ts := (S39 X u [] 0).tmps) (H := H39 u []) (cs := []) (by kernel_rfl) trivial ⟨rfl, 0, rfl, Nat.zero_le _⟩) ?_ ?_
  · rintro i t ⟨rfl, hi⟩
    by_cases hlt : i < l.length
    · have hx : l[i]? = some l[i] := List.getElem?_eq_getElem hlt
      generalize l[i] = x at hx
      have hs := dropE_succ l u i x hx
      have hol : (dropE (l.take i) u).length ≤ 1000 := by have := dropE_length (l.take i) u; simp at this; omega
      have hxx := hXg i x hx
      generalize dropE (l.take i) u = out at hs hol
      obtain ⟨v, ps, ats⟩ := x
      have hc : 0 ≤ (i : Int) ∧ X[(i : Int).toNat]? = some (entF ⟨v, ps, ats⟩) := ⟨by omega, by rw [Int.toNat_natCast]; exact hxx⟩
      cases hq : (v.1 == u.1 && v.2 == u.2) with
      | true =>
        have hrun : rT Γnil Δnil B39 (S39 X u (out.map entF) i) [.br true, .el (entF ⟨v, ps, ats⟩), .br false] [0, 3, 5, 6] [] 3 = some (.normal, (S39 X u (out.map entF) (IntKind.i64.wrap ((i : Int) + 1))).tmps, H39 u (out.map entF),
          [(!(v.1 == u.1 && v.2 == u.2)) = false, 0 ≤ (i : Int) ∧ X[(i : Int).toNat]? = some (entF ⟨v, ps, ats⟩), decide ((i : Int) < (X.length : Int)) = true]) := by kernel_rfl
        refine tr_run Γnil_ok Δnil_ok hrun ⟨by rw [hq]; rfl, hc, by simp; omega, trivial⟩ ⟨i + 1, ⟨?_, by omega⟩, by show l.length - (i + 1) < l.length - i; omega⟩
        rw [step1 (by omega), hs]
        simp only [hq, Bool.not_true, Bool.false_eq_true, if_false, List.append_nil]
        rfl
      | false =>
        have hrun : rT Γnil Δnil B39 (S39 X u (out.map entF) i) [.br true, .el (entF ⟨v, ps, ats⟩), .br true, .el (entF ⟨v, ps, ats⟩), .ok] [0, 3, 5, 6] [] 3 = some (.normal, (S39 X u (out.map entF) (IntKind.i64.wrap ((i : Int) + 1))).tmps, H39 u (out.map entF ++ [entF ⟨v, ps, ats⟩]),
          [((out.map entF).length + 1) * szB 29 ≤ 140737488355328 ∧ (out.map entF).length + 1 ≤ 140737488355328, 0 ≤ (i : Int) ∧ X[(i : Int).toNat]? = some (entF ⟨v, ps, ats⟩), (!(v.1 == u.1 && v.2 == u.2)) = true, 0 ≤ (i : Int) ∧ X[(i : Int).toNat]? = some (entF ⟨v, ps, ats⟩), decide ((i : Int) < (X.length : Int)) = true]) := by kernel_rfl
        refine tr_run Γnil_ok Δnil_ok hrun ⟨?_, hc, by rw [hq]; rfl, hc, by simp; omega, trivial⟩ ⟨i + 1, ⟨?_, by omega⟩, by show l.length - (i + 1) < l.length - i; omega⟩
        · rw [List.length_map]
          have := Nat.mul_le_mul (show out.length + 1 ≤ 1001 by omega) hsz
          omega
        · rw [step1 (by omega), hs]
          simp only [hq, Bool.not_false, if_true, List.map_append, List.map_cons, List.map_nil]
          rfl
    · have hil : i = l.length := by omega
      subst hil
      rw [List.take_length]
      generalize (dropE l u).map entF = O
      have hrun : rT Γnil Δnil B39 (S39 X u O l.length) [.br false] [0, 3, 5, 6] [] 3 = some (.exit 0, (S39 X u O l.length).tmps, H39 u O, [decide ((l.length : Int) < (X.length : Int)) = false]) := by kernel_rfl
      exact tr_run Γnil_ok Δnil_ok hrun ⟨by simp; omega, trivial⟩ ⟨rfl, rfl⟩
  · rintro t rfl _
    generalize (dropE l u).map entF = O
    have hrun : rT Γnil Δnil (cr L39) (S39 X u O l.length) [] [4] [] 3 = some (.ret, sp 28 [(4, .own 2)], H39 u O, []) := by kernel_rfl
    exact tr_run Γnil_ok Δnil_ok hrun trivial ⟨.own 2, by kernel_rfl, rfl⟩

/-! ### Put -/
def Γq (D : List (List FV)) (X0 : List (List FV)) (u : Uid) : PureT := fun f xs => match f, xs with
  | 33, [.agg [.fz (.sc (.string a)), .fz (.sc (.string b))], .agg [.fz (.sc (.string c)), .fz (.sc (.string d))]] => some (.boo (ltU (a, b) (c, d)), true, [])
  | 39, [.fz (.sl 4 X), .agg [.fz (.sc (.string a)), .fz (.sc (.string b))]] => some (.fz (.sl 4 D), false, [X = X0 ∧ (a, b) = u])
  | _, _ => none
theorem Γq_ok (l : List EntD) (u : Uid) (hl : l.length ≤ 1000) : PureOK Try.prog (Γq ((dropE l u).map entF) (l.map entF) u) := by
  intro f xs r fresh c hg hc
  unfold Γq at hg
  split at hg
  · cases hg; exact c33 (_, _) (_, _)
  · cases hg
    obtain ⟨⟨rfl, h⟩, _⟩ := hc
    rw [← h]
    rw [← h] at *
    exact c39 l (_, _) hl
  · cases hg
noncomputable abbrev L35 : Code := post 3 (bodyOf Try.f35)
noncomputable abbrev B35 : Code := cb (cb (cl L35))
abbrev H35 (ps ats : List (List FV)) (u : Uid) : AHeap := [some (.var 29 [.str u.1, .str u.2, .fz (.sl 2 ps), .fz (.sl 8 ats)])]
abbrev S35 (X ps ats : List (List FV)) (u : Uid) (k : Int) : St := stOf (sp 41 [(0, .fz (.sl 4 X)), (3, .ptr 0 0), (5, .int k)]) (H35 ps ats u) 0
set_option maxRecDepth 100000 in
theorem c35 (l : List EntD) (e : EntD) (hl : l.length ≤ 1000) : PureAt Try.prog 35 [.fz (.sl 4 (l.map entF)), entV e] (.fz (.sl 4 ((putE l e).map entF))) false := by
  have hsz : szB 29 ≤ 1000 := by decide +kernel
  obtain ⟨u, ps, ats⟩ := e
  have hΓ := Γq_ok l u hl
  have hdl : (dropE l u).length ≤ 1000 := Nat.le_trans (dropE_length l u) hl
  have hput : putE l ⟨u, ps, ats⟩ = (dropE l u).take (seekI (fun x => ltU x.u u) (dropE l u)) ++ ⟨u, ps, ats⟩ :: (dropE l u).drop (seekI (fun x => ltU x.u u) (dropE l u)) := rfl
  generalize dropE l u = d at hΓ hdl hput
  have hle := seekI_le (fun x => ltU x.u u) d
  have hlt := @seekI_lt EntD (fun x => ltU x.u u) d
  have hat := @seekI_at EntD (fun x => ltU x.u u) d
  generalize seekI (fun x : EntD => ltU x.u u) d = q at hle hlt hat hput
  have hXl : (d.map entF).length = d.length := by simp
  have hXg : ∀ (i : Nat) x, d[i]? = some x → (d.map entF)[i]? = some (entF x) := fun i x h => by rw [List.getElem?_map, h]; rfl
  have hfin : (putE l ⟨u, ps, ats⟩).map entF = ([] ++ (d.map entF).take q ++ [entF ⟨u, ps, ats⟩]) ++ ((d.map entF).drop q).take (((d.map entF).length : Int) - (q : Int)).toNat := by
    rw [hput, List.take_of_length_le (l := (d.map entF).drop q) (by simp)]
    simp
  generalize (putE l ⟨u, ps, ats⟩).map entF = Z at hfin
  generalize d.map entF = D at hΓ hXl hXg hfin
  generalize l.map entF = X at hΓ
  show PureAt Try.prog 35 [.fz (.sl 4 X), .agg [.str u.1, .str u.2, .fz (.sl 2 (ps.map uidF)), .fz (.sl 8 (ats.map attrF))]] _ false
  have hent : entF ⟨u, ps, ats⟩ = [.str u.1, .str u.2, .sl 2 (ps.map uidF), .sl 8 (ats.map attrF)] := rfl
  rw [hent] at hfin
  generalize ps.map uidF = P at hfin
  generalize ats.map attrF = A at hfin
  refine pureAt_of_fun (fun_of_tr Try.func35 (c := bodyOf Try.f35) (by kernel_rfl) (Nat.le_refl _) ?_)
  refine tr_pre hΓ Δnil_ok 3 (hs := []) (ks := [0, 3, 5]) (kills := []) (N := 1) (ts := (S35 D P A u 0).tmps) (H := H35 P A u) (cs := [X = X ∧ (u.1, u.2) = u]) (by kernel_rfl) ⟨⟨rfl, rfl⟩, trivial⟩ ?_
  refine Tr.loopAt (fun (j : Nat) t => t = S35 D P A u j ∧ j ≤ q) (fun j => q - j) (fun t => t = S35 D P A u q) (id := 0) (B := B35) (C := cr L35) (by kernel_rfl) (i := 0) ⟨rfl, Nat.zero_le _⟩ ?_ ?_
  · rintro j t ⟨rfl, hj⟩
    by_cases hjl : j < d.length
    · have hy : d[j]? = some d[j] := List.getElem?_eq_getElem hjl
      generalize d[j] = y at hy
      have hc1 : 0 ≤ (j : Int) ∧ D[(j : Int).toNat]? = some (entF y) := ⟨by omega, by rw [Int.toNat_natCast]; exact hXg j y hy⟩
      have hc3 := boolT (show (j : Int) < (D.length : Int) by omega)
      obtain ⟨v, qs, qts⟩ := y
      by_cases hjq : j < q
      · have hl1 : ltU v u = true := hlt hjq hy
        have hrun : rT (Γq D X u) Δnil B35 (S35 D P A u j) [.is .lss (.bool true), .el (entF ⟨v, qs, qts⟩), .br true, .br true] [0, 3, 5] [] 1 = some (.normal, (S35 D P A u (IntKind.i64.wrap ((j : Int) + 1))).tmps, H35 P A u,
          [ltU (v.1, v.2) (u.1, u.2) = true, true = true, 0 ≤ (j : Int) ∧ D[(j : Int).toNat]? = some (entF ⟨v, qs, qts⟩), Value.bool (decide ((j : Int) < (D.length : Int))) = .bool true]) := by kernel_rfl
        refine tr_run hΓ Δnil_ok hrun ⟨hl1, rfl, hc1, hc3, trivial⟩ ⟨j + 1, ⟨?_, by omega⟩, by show q - (j + 1) < q - j; omega⟩
        rw [step1 (by omega)]; rfl
      · have hjq' : j = q := by omega
        subst hjq'
        have hl1 : ltU v u = false := hat hy
        have hrun : rT (Γq D X u) Δnil B35 (S35 D P A u j) [.is .lss (.bool true), .el (entF ⟨v, qs, qts⟩), .br true, .br false] [0, 3, 5] [] 1 = some (.exit 0, (S35 D P A u j).tmps, H35 P A u,
          [ltU (v.1, v.2) (u.1, u.2) = false, true = true, 0 ≤ (j : Int) ∧ D[(j : Int).toNat]? = some (entF ⟨v, qs, qts⟩), Value.bool (decide ((j : Int) < (D.length : Int))) = .bool true]) := by kernel_rfl
        exact tr_run hΓ Δnil_ok hrun ⟨hl1, rfl, hc1, hc3, trivial⟩ ⟨rfl, rfl⟩
    · have hjq' : j = q := by omega
      subst hjq'
      have hc3 := boolF (show ¬ (j : Int) < (D.length : Int) by omega)
      have hrun : rT (Γq D X u) Δnil B35 (S35 D P A u j) [.is .lss (.bool false)] [0, 3, 5] [] 1 = some (.exit 0, (S35 D P A u j).tmps, H35 P A u, [Value.bool (decide ((j : Int) < (D.length : Int))) = .bool false]) := by kernel_rfl
      exact tr_run hΓ Δnil_ok hrun ⟨hc3, trivial⟩ ⟨rfl, rfl⟩
  · rintro t rfl _
    have hlen1 : (([] : List (List FV)).length + (D.take q).length) * szB 29 ≤ 140737488355328 ∧ ([] : List (List FV)).length + (D.take q).length ≤ 140737488355328 := by
      have h1 : (([] : List (List FV)).length + (D.take q).length) ≤ 1000 := by simp; omega
      have := Nat.mul_le_mul h1 hsz
      omega
    have hlen2 : (([] ++ D.take q).length + 1) * szB 29 ≤ 140737488355328 ∧ ([] ++ D.take q).length + 1 ≤ 140737488355328 := by
      have h1 : ([] ++ D.take q).length + 1 ≤ 1001 := by simp; omega
      have := Nat.mul_le_mul h1 hsz
      omega
    have hlen3 : (([] ++ D.take q ++ [[FV.str u.1, .str u.2, .sl 2 P, .sl 8 A]]).length + ((D.drop q).take ((D.length : Int) - (q : Int)).toNat).length) * szB 29 ≤ 140737488355328 ∧ ([] ++ D.take q ++ [[FV.str u.1, .str u.2, .sl 2 P, .sl 8 A]]).length + ((D.drop q).take ((D.length : Int) - (q : Int)).toNat).length ≤ 140737488355328 := by
      have h1 : ([] ++ D.take q ++ [[FV.str u.1, .str u.2, .sl 2 P, .sl 8 A]]).length + ((D.drop q).take ((D.length : Int) - (q : Int)).toNat).length ≤ 2001 := by simp; omega
      have := Nat.mul_le_mul h1 hsz
      omega
    have hs1 : 0 ≤ (0 : Int) ∧ (0 : Int) ≤ (q : Int) ∧ (q : Int) ≤ (D.length : Int) := by omega
    have hs2 : 0 ≤ (q : Int) ∧ (q : Int) ≤ (D.length : Int) ∧ (D.length : Int) ≤ (D.length : Int) := by omega
    have hrun : rT (Γq D X u) Δnil (cr L35) (S35 D P A u q) [.ok, .ok, .ok, .ok, .ok] [4] [] 2 = some (.ret, sp 41 [(4, .own 1)], H35 P A u ++ [some (.row 29 4 (([] ++ D.take q ++ [[FV.str u.1, .str u.2, .sl 2 P, .sl 8 A]]) ++ (D.drop q).take ((D.length : Int) - (q : Int)).toNat))],
      [(([] ++ D.take q ++ [[FV.str u.1, .str u.2, .sl 2 P, .sl 8 A]]).length + ((D.drop q).take ((D.length : Int) - (q : Int)).toNat).length) * szB 29 ≤ 140737488355328 ∧ ([] ++ D.take q ++ [[FV.str u.1, .str u.2, .sl 2 P, .sl 8 A]]).length + ((D.drop q).take ((D.length : Int) - (q : Int)).toNat).length ≤ 140737488355328,
        0 ≤ (q : Int) ∧ (q : Int) ≤ (D.length : Int) ∧ (D.length : Int) ≤ (D.length : Int), (([] ++ D.take q).length + 1) * szB 29 ≤ 140737488355328 ∧ ([] ++ D.take q).length + 1 ≤ 140737488355328,
        (([] : List (List FV)).length + (D.take q).length) * szB 29 ≤ 140737488355328 ∧ ([] : List (List FV)).length + (D.take q).length ≤ 140737488355328, 0 ≤ (0 : Int) ∧ (0 : Int) ≤ (q : Int) ∧ (q : Int) ≤ (D.length : Int)]) := by kernel_rfl
    refine tr_run hΓ Δnil_ok hrun ⟨hlen3, hs2, hlen2, hlen1, hs1, trivial⟩ ⟨.own 1, by kernel_rfl, ?_⟩
    rw [hfin]
    rfl
end Go.Proofs.Ai
