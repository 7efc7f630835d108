/- Contracts: entities such as may be, of what they are made of: one round. -/
import Derived.Test.YtfjjeijkbhcoaaaAbPut8
set_option linter.unusedVariables false
set_option linter.unusedSimpArgs false
namespace Go.Proofs.Ai
open Go

def sameU (a b : Uid) : Bool := a.1 == b.1 && a.2 == b.2
def normPs (ps : List Uid) : List Uid := ps.foldl (insI ltU sameU) []
def addA (acc : List (ByteArray × Val)) (a : ByteArray × Val) : List (ByteArray × Val) := match acc[acc.length - 1]? with
  | none => acc ++ [a]
  | some b => bif ltS b.1 a.1 then acc ++ [a] else acc
def normAs (l : List (ByteArray × Val)) : List (ByteArray × Val) := l.foldl addA []
def normE (e : EntD) : EntD := ⟨e.u, normPs e.ps, normAs e.ats⟩
def goodE (es : List EntR) : List EntD := (es.take 12).foldl (fun out e => putE out (normE (entR e))) []

noncomputable abbrev L25 : Code := post 2 (bodyOf Try.f25)
noncomputable abbrev B25 : Code := cb (cb (cr (cl L25)))
noncomputable abbrev W25 : Code := cb (cl (cr B25))
noncomputable abbrev P25 : Code := post 2 W25
noncomputable abbrev PB25 : Code := cb (cb (cr (cl P25)))
noncomputable abbrev K25 : Code := cb (cl (cr PB25))
noncomputable abbrev I25 : Code := cb (cb (cl (cr K25)))
noncomputable abbrev R25 : Code := cr (cr K25)
noncomputable abbrev Q25 : Code := post 2 (cr P25)
noncomputable abbrev AB25 : Code := cb (cb (cr (cl Q25)))
noncomputable abbrev F25 : Code := cr Q25
def Γz (e : EntR) (l : List EntD) (e0 : EntD) : PureT := fun f xs => match f, xs with
  | 33, [.agg [.fz (.sc (.string a)), .fz (.sc (.string b))], .agg [.fz (.sc (.string c)), .fz (.sc (.string d))]] => some (.boo (ltU (a, b) (c, d)), true, [])
  | 30, [.agg cells] => some (entV (entR e), false, [cells = (entRF e).map AV.fz])
  | 35, [.fz (.sl 4 X), .agg cells] => some (.fz (.sl 4 ((putE l e0).map entF)), false, [l.length ≤ 1000 ∧ X = l.map entF ∧ cells = (entF e0).map AV.fz])
  | _, _ => none
theorem Γz_ok (e : EntR) (l : List EntD) (e0 : EntD) : PureOK Try.prog (Γz e l e0) := by
  intro f xs r fresh c hg hc
  unfold Γz at hg
  split at hg
  · cases hg; exact c33 (_, _) (_, _)
  · cases hg
    obtain ⟨rfl, _⟩ := hc
    exact c30 e
  · cases hg
    obtain ⟨⟨h1, rfl, rfl⟩, _⟩ := hc
    exact c35 l e0 h1
  · cases hg
abbrev S25 (L O : List (List FV)) (i : Int) : St := stOf (sp 128 [(0, .fz (.sl 5 L)), (3, .fz (.sl 4 O)), (4, .int i)]) [] 0
abbrev Hp (u : Uid) (ps ats up : List (List FV)) : AHeap := [some (.var 29 [.str u.1, .str u.2, .fz (.sl 2 ps), .fz (.sl 8 ats)]), some (.row 25 2 up)]
abbrev Sp0 (L O : List (List FV)) (i : Int) (u : Uid) (ps ats up : List (List FV)) : St := stOf (sp 128 [(0, .fz (.sl 5 L)), (3, .fz (.sl 4 O)), (4, .int i), (5, .ptr 0 0), (6, .own 1)]) (Hp u ps ats up) 0
abbrev Sp (L O : List (List FV)) (i : Int) (u : Uid) (ps ats up : List (List FV)) (k : Int) : St := stOf (sp 128 [(0, .fz (.sl 5 L)), (3, .fz (.sl 4 O)), (4, .int i), (5, .ptr 0 0), (6, .own 1), (7, .int k)]) (Hp u ps ats up) 0
abbrev Si (L O : List (List FV)) (i : Int) (u : Uid) (ps ats up : List (List FV)) (k j : Int) : St := stOf (sp 128 [(0, .fz (.sl 5 L)), (3, .fz (.sl 4 O)), (4, .int i), (5, .ptr 0 0), (6, .own 1), (7, .int k), (8, .int j)]) (Hp u ps ats up) 0
abbrev Ha (u : Uid) (ats up az : List (List FV)) : AHeap := [some (.var 29 [.str u.1, .str u.2, .own 1, .fz (.sl 8 ats)]), some (.row 25 2 up), some (.row 35 8 az)]
abbrev Sa (L O : List (List FV)) (i : Int) (u : Uid) (ats up az : List (List FV)) (k : Int) : St := stOf (sp 128 [(0, .fz (.sl 5 L)), (3, .fz (.sl 4 O)), (4, .int i), (5, .ptr 0 0), (10, .own 2), (11, .int k)]) (Ha u ats up az) 0


set_option maxRecDepth 100000 in
theorem innerP (e : EntR) (l : List EntD) (e0 : EntD) (L O : List (List FV)) (i : Int) (u : Uid) (PS ats : List (List FV)) (out : List Uid) (v : Uid) (k : Nat) (hx : PS[k]? = some (uidF v)) (hl : out.length ≤ 100) :
    Tr Try.prog K25 (Sp L O i u PS ats (out.map uidF) k) (blkPost 3 (fun e t => e = .normal ∧ t = Sp L O i u PS ats ((insI ltU sameU out v).map uidF) k)) := by
  have hΓ := Γz_ok e l e0
  have hsz : szB 25 ≤ 100 := by decide +kernel
  have hxi : 0 ≤ (k : Int) ∧ PS[(k : Int).toNat]? = some (uidF v) := ⟨by omega, by rw [Int.toNat_natCast]; exact hx⟩
  have hgo : ∀ (j : Nat) x, out[j]? = some x → (out.map uidF)[j]? = some (uidF x) := fun j x h => by rw [List.getElem?_map, h]; rfl
  have hle := seekI_le (fun x => ltU x v) out
  have hlt := @seekI_lt Uid (fun x => ltU x v) out
  have hat := @seekI_at Uid (fun x => ltU x v) out
  have hins : insI ltU sameU out v = bif hit sameU out (seekI (fun x => ltU x v) out) v then out else out.take (seekI (fun x => ltU x v) out) ++ v :: out.drop (seekI (fun x => ltU x v) out) := rfl
  generalize seekI (fun x => ltU x v) out = q at hle hlt hat hins
  have hXl : (out.map uidF).length = out.length := by simp
  have hfin : (out.take q ++ v :: out.drop q).map uidF = ([] ++ (out.map uidF).take q ++ [uidF v]) ++ ((out.map uidF).drop q).take (((out.map uidF).length : Int) - (q : Int)).toNat := by
    rw [List.take_of_length_le (l := (out.map uidF).drop q) (by simp)]
    simp
  generalize hX : out.map uidF = X at hgo hXl hfin
  refine tr_pre hΓ Δnil_ok 1 (hs := []) (ks := [0, 3, 4, 5, 6, 7, 8]) (kills := []) (N := 2) (ts := (Si L O i u PS ats X k 0).tmps) (H := Hp u PS ats X) (cs := []) (by kernel_rfl) trivial ?_
  refine Tr.loopAt (fun (j : Nat) t => t = Si L O i u PS ats X k j ∧ j ≤ q) (fun j => q - j) (fun t => t = Si L O i u PS ats X k q) (id := 4) (B := I25) (C := R25) (by kernel_rfl) (i := 0) ⟨rfl, Nat.zero_le _⟩ ?_ ?_
  · rintro j t ⟨rfl, hj⟩
    by_cases hjl : j < out.length
    · have hy : out[j]? = some out[j] := List.getElem?_eq_getElem hjl
      generalize out[j] = w at hy
      have hc1 : X[(j : Int).toNat]? = some (uidF w) := by rw [Int.toNat_natCast]; exact hgo j _ hy
      have hc2 : 0 ≤ (j : Int) ∧ (j : Int) < (X.length : Int) := ⟨by omega, by omega⟩
      have hc3 := boolT (show (j : Int) < (X.length : Int) by omega)
      by_cases hjq : j < q
      · have hl1 : ltU w v = true := hlt hjq hy
        have hrun : rT (Γz e l e0) Δnil I25 (Si L O i u PS ats X k j) [.is .lss (.bool true), .ok, .el (uidF w), .el (uidF v), .br true, .br true] [0, 3, 4, 5, 6, 7, 8] [] 2 = some (.normal, (Si L O i u PS ats X k (IntKind.i64.wrap ((j : Int) + 1))).tmps, Hp u PS ats X,
          [ltU (w.1, w.2) (v.1, v.2) = true, true = true, 0 ≤ (k : Int) ∧ PS[(k : Int).toNat]? = some (uidF v), X[(j : Int).toNat]? = some (uidF w), 0 ≤ (j : Int) ∧ (j : Int) < (X.length : Int), Value.bool (decide ((j : Int) < (X.length : Int))) = .bool true]) := by kernel_rfl
        refine tr_run hΓ Δnil_ok hrun ⟨hl1, rfl, hxi, hc1, hc2, hc3, trivial⟩ ⟨j + 1, ⟨?_, by omega⟩, by show q - (j + 1) < q - j; omega⟩
        rw [step1 (by omega)]; rfl
      · have hjq' : j = q := by omega
        subst hjq'
        have hl1 : ltU w v = false := hat hy
        have hrun : rT (Γz e l e0) Δnil I25 (Si L O i u PS ats X k j) [.is .lss (.bool true), .ok, .el (uidF w), .el (uidF v), .br true, .br false] [0, 3, 4, 5, 6, 7, 8] [] 2 = some (.exit 4, (Si L O i u PS ats X k j).tmps, Hp u PS ats X,
          [ltU (w.1, w.2) (v.1, v.2) = false, true = true, 0 ≤ (k : Int) ∧ PS[(k : Int).toNat]? = some (uidF v), X[(j : Int).toNat]? = some (uidF w), 0 ≤ (j : Int) ∧ (j : Int) < (X.length : Int), Value.bool (decide ((j : Int) < (X.length : Int))) = .bool true]) := by kernel_rfl
        exact tr_run hΓ Δnil_ok hrun ⟨hl1, rfl, hxi, hc1, hc2, hc3, trivial⟩ ⟨rfl, rfl⟩
    · have hjq' : j = q := by omega
      subst hjq'
      have hc3 := boolF (show ¬ (j : Int) < (X.length : Int) by omega)
      have hrun : rT (Γz e l e0) Δnil I25 (Si L O i u PS ats X k j) [.is .lss (.bool false)] [0, 3, 4, 5, 6, 7, 8] [] 2 = some (.exit 4, (Si L O i u PS ats X k j).tmps, Hp u PS ats X, [Value.bool (decide ((j : Int) < (X.length : Int))) = .bool false]) := by kernel_rfl
      exact tr_run hΓ Δnil_ok hrun ⟨hc3, trivial⟩ ⟨rfl, rfl⟩
  · rintro t rfl _
    have hlen1 : (([] : List (List FV)).length + (X.take q).length) * szB 25 ≤ 140737488355328 ∧ ([] : List (List FV)).length + (X.take q).length ≤ 140737488355328 := by
      have h1 : (([] : List (List FV)).length + (X.take q).length) ≤ 100 := by simp; omega
      have := Nat.mul_le_mul h1 hsz
      omega
    have hlen2 : (([] ++ X.take q).length + 1) * szB 25 ≤ 140737488355328 ∧ ([] ++ X.take q).length + 1 ≤ 140737488355328 := by
      have h1 : ([] ++ X.take q).length + 1 ≤ 101 := by simp; omega
      have := Nat.mul_le_mul h1 hsz
      omega
    have hlen3 : (([] ++ X.take q ++ [uidF v]).length + ((X.drop q).take ((X.length : Int) - (q : Int)).toNat).length) * szB 25 ≤ 140737488355328 ∧ ([] ++ X.take q ++ [uidF v]).length + ((X.drop q).take ((X.length : Int) - (q : Int)).toNat).length ≤ 140737488355328 := by
      have h1 : ([] ++ X.take q ++ [uidF v]).length + ((X.drop q).take ((X.length : Int) - (q : Int)).toNat).length ≤ 201 := by simp; omega
      have := Nat.mul_le_mul h1 hsz
      omega
    have hs1 : 0 ≤ (0 : Int) ∧ (0 : Int) ≤ (q : Int) ∧ (q : Int) ≤ (X.length : Int) := by omega
    have hs2 : 0 ≤ (q : Int) ∧ (q : Int) ≤ (X.length : Int) ∧ (X.length : Int) ≤ (X.length : Int) := by omega
    by_cases hql : q < out.length
    · have hy : out[q]? = some out[q] := List.getElem?_eq_getElem hql
      generalize out[q] = w at hy
      have hc1 : X[(q : Int).toNat]? = some (uidF w) := by rw [Int.toNat_natCast]; exact hgo q _ hy
      have hc2 : 0 ≤ (q : Int) ∧ (q : Int) < (X.length : Int) := ⟨by omega, by omega⟩
      have hc3 := boolT (show (q : Int) < (X.length : Int) by omega)
      have hhit : hit sameU out q v = (w.1 == v.1 && w.2 == v.2) := by unfold hit; rw [hy]; rfl
      rw [hhit] at hins
      cases hsm : (w.1 == v.1 && w.2 == v.2) with
      | true =>
        rw [hsm, cond_true] at hins
        have hrun : rT (Γz e l e0) Δnil R25 (Si L O i u PS ats X k q) [.is .lss (.bool true), .ok, .el (uidF w), .el (uidF v), .br true, .br true] [0, 3, 4, 5, 6, 7] [] 2 = some (.exit 3, (Sp L O i u PS ats X k).tmps, Hp u PS ats X,
          [(w.1 == v.1 && w.2 == v.2) = true, true = true, 0 ≤ (k : Int) ∧ PS[(k : Int).toNat]? = some (uidF v), X[(q : Int).toNat]? = some (uidF w), 0 ≤ (q : Int) ∧ (q : Int) < (X.length : Int), Value.bool (decide ((q : Int) < (X.length : Int))) = .bool true]) := by kernel_rfl
        refine tr_run hΓ Δnil_ok hrun ⟨hsm, rfl, hxi, hc1, hc2, hc3, trivial⟩ ?_
        show blkPost 3 _ (.exit 3) _
        simp only [blkPost, if_true]
        rw [hins, hX]
        exact ⟨trivial, rfl⟩
      | false =>
        rw [hsm, cond_false] at hins
        have hrun : rT (Γz e l e0) Δnil R25 (Si L O i u PS ats X k q) [.is .lss (.bool true), .ok, .el (uidF w), .el (uidF v), .br true, .br false, .ok, .ok, .el (uidF v), .ok, .ok, .ok] [0, 3, 4, 5, 6, 7] [1] 3 =
          some (.normal, sp 128 [(0, .fz (.sl 5 L)), (3, .fz (.sl 4 O)), (4, .int i), (5, .ptr 0 0), (6, .own 2), (7, .int k)], [some (.var 29 [.str u.1, .str u.2, .fz (.sl 2 PS), .fz (.sl 8 ats)]), none, some (.row 25 2 (([] ++ X.take q ++ [uidF v]) ++ (X.drop q).take ((X.length : Int) - (q : Int)).toNat))],
          [(([] ++ X.take q ++ [uidF v]).length + ((X.drop q).take ((X.length : Int) - (q : Int)).toNat).length) * szB 25 ≤ 140737488355328 ∧ ([] ++ X.take q ++ [uidF v]).length + ((X.drop q).take ((X.length : Int) - (q : Int)).toNat).length ≤ 140737488355328,
            0 ≤ (q : Int) ∧ (q : Int) ≤ (X.length : Int) ∧ (X.length : Int) ≤ (X.length : Int), (([] ++ X.take q).length + 1) * szB 25 ≤ 140737488355328 ∧ ([] ++ X.take q).length + 1 ≤ 140737488355328, 0 ≤ (k : Int) ∧ PS[(k : Int).toNat]? = some (uidF v),
            (([] : List (List FV)).length + (X.take q).length) * szB 25 ≤ 140737488355328 ∧ ([] : List (List FV)).length + (X.take q).length ≤ 140737488355328, 0 ≤ (0 : Int) ∧ (0 : Int) ≤ (q : Int) ∧ (q : Int) ≤ (X.length : Int),
            (w.1 == v.1 && w.2 == v.2) = false, true = true, 0 ≤ (k : Int) ∧ PS[(k : Int).toNat]? = some (uidF v), X[(q : Int).toNat]? = some (uidF w), 0 ≤ (q : Int) ∧ (q : Int) < (X.length : Int), Value.bool (decide ((q : Int) < (X.length : Int))) = .bool true]) := by kernel_rfl
        refine tr_runM hΓ Δnil_ok (b := 1) (n := 2) (N' := 2) (ts' := (Sp L O i u PS ats (([] ++ X.take q ++ [uidF v]) ++ (X.drop q).take ((X.length : Int) - (q : Int)).toNat) k).tmps) (H' := Hp u PS ats (([] ++ X.take q ++ [uidF v]) ++ (X.drop q).take ((X.length : Int) - (q : Int)).toNat)) hrun ⟨hlen3, hs2, hlen2, hxi, hlen1, hs1, hsm, rfl, hxi, hc1, hc2, hc3, trivial⟩ (by kernel_rfl) ?_
        show _ ∧ _
        rw [hins, hfin]
        exact ⟨rfl, rfl⟩
    · have hc3 := boolF (show ¬ (q : Int) < (X.length : Int) by omega)
      have hhit : hit sameU out q v = false := by unfold hit; rw [List.getElem?_eq_none (by omega)]
      rw [hhit, cond_false] at hins
      have hrun : rT (Γz e l e0) Δnil R25 (Si L O i u PS ats X k q) [.is .lss (.bool false), .ok, .ok, .el (uidF v), .ok, .ok, .ok] [0, 3, 4, 5, 6, 7] [1] 3 =
        some (.normal, sp 128 [(0, .fz (.sl 5 L)), (3, .fz (.sl 4 O)), (4, .int i), (5, .ptr 0 0), (6, .own 2), (7, .int k)], [some (.var 29 [.str u.1, .str u.2, .fz (.sl 2 PS), .fz (.sl 8 ats)]), none, some (.row 25 2 (([] ++ X.take q ++ [uidF v]) ++ (X.drop q).take ((X.length : Int) - (q : Int)).toNat))],
        [(([] ++ X.take q ++ [uidF v]).length + ((X.drop q).take ((X.length : Int) - (q : Int)).toNat).length) * szB 25 ≤ 140737488355328 ∧ ([] ++ X.take q ++ [uidF v]).length + ((X.drop q).take ((X.length : Int) - (q : Int)).toNat).length ≤ 140737488355328,
          0 ≤ (q : Int) ∧ (q : Int) ≤ (X.length : Int) ∧ (X.length : Int) ≤ (X.length : Int), (([] ++ X.take q).length + 1) * szB 25 ≤ 140737488355328 ∧ ([] ++ X.take q).length + 1 ≤ 140737488355328, 0 ≤ (k : Int) ∧ PS[(k : Int).toNat]? = some (uidF v),
          (([] : List (List FV)).length + (X.take q).length) * szB 25 ≤ 140737488355328 ∧ ([] : List (List FV)).length + (X.take q).length ≤ 140737488355328, 0 ≤ (0 : Int) ∧ (0 : Int) ≤ (q : Int) ∧ (q : Int) ≤ (X.length : Int),
          Value.bool (decide ((q : Int) < (X.length : Int))) = .bool false]) := by kernel_rfl
      refine tr_runM hΓ Δnil_ok (b := 1) (n := 2) (N' := 2) (ts' := (Sp L O i u PS ats (([] ++ X.take q ++ [uidF v]) ++ (X.drop q).take ((X.length : Int) - (q : Int)).toNat) k).tmps) (H' := Hp u PS ats (([] ++ X.take q ++ [uidF v]) ++ (X.drop q).take ((X.length : Int) - (q : Int)).toNat)) hrun ⟨hlen3, hs2, hlen2, hxi, hlen1, hs1, hc3, trivial⟩ (by kernel_rfl) ?_
      show _ ∧ _
      rw [hins, hfin]
      exact ⟨rfl, rfl⟩

theorem normPs_fold (vs : List Uid) (i : Nat) (v : Uid) (h : vs[i]? = some v) : normPs (vs.take (i + 1)) = insI ltU sameU (normPs (vs.take i)) v := by
  unfold normPs
  rw [List.take_add_one, h]
  simp
theorem normPs_length (vs : List Uid) : (normPs vs).length ≤ vs.length := by
  have : ∀ (vs acc : List Uid), (vs.foldl (insI ltU sameU) acc).length ≤ acc.length + vs.length := by
    intro vs
    induction vs with
    | nil => intro acc; simp
    | cons v vs ih =>
      intro acc
      have h1 := ih (insI ltU sameU acc v)
      have h2 := insI_length ltU sameU acc v
      simp only [List.foldl_cons, List.length_cons]
      omega
  have := this vs []
  simpa [normPs] using this

set_option maxRecDepth 100000 in
theorem parents25 (e : EntR) (l : List EntD) (e0 : EntD) (L O : List (List FV)) (i : Int) (u : Uid) (ps : List Uid) (ats : List (List FV)) (hp : ps.length ≤ 100) {R : AExit → St → Prop} (h : ∀ k, Tr Try.prog (cr P25) (Sp L O i u (ps.map uidF) ats ((normPs ps).map uidF) k) R) :
    Tr Try.prog P25 (Sp0 L O i u (ps.map uidF) ats []) R := by
  have hΓ := Γz_ok e l e0
  have hXl : (ps.map uidF).length = ps.length := by simp
  have hXg : ∀ (j : Nat) x, ps[j]? = some x → (ps.map uidF)[j]? = some (uidF x) := fun j x h => by rw [List.getElem?_map, h]; rfl
  generalize ps.map uidF = X at hXl hXg h
  refine Tr.rangeAt (fun (k : Nat) t => t = Sp L O i u X ats ((normPs (ps.take k)).map uidF) k ∧ k ≤ ps.length) (fun k => ps.length - k) (fun t => t = Sp L O i u X ats ((normPs ps).map uidF) ps.length) (id := 2) (A := cl (cl P25)) (B := PB25) (C := cr P25) (by kernel_rfl)
    (tr_run hΓ Δnil_ok (hs := []) (ks := [0, 3, 4, 5, 6, 7]) (kills := []) (N := 2) (e := .normal) (ts := (Sp L O i u X ats [] 0).tmps) (H := Hp u X ats []) (cs := []) (by kernel_rfl) trivial ⟨rfl, 0, rfl, Nat.zero_le _⟩) ?_ (fun t ht _ => by rw [ht]; exact h _)
  rintro k t ⟨rfl, hi⟩
  by_cases hlt : k < ps.length
  · have hx : ps[k]? = some ps[k] := List.getElem?_eq_getElem hlt
    generalize ps[k] = v at hx
    have hfold := normPs_fold ps k v hx
    have hol : (normPs (ps.take k)).length ≤ 100 := by have := normPs_length (ps.take k); simp at this; omega
    generalize normPs (ps.take k) = out at hfold hol
    have hin := innerP e l e0 L O i u X ats out v k (hXg k v hx) hol
    rw [← hfold] at hin
    generalize out.map uidF = Y at hin
    generalize hZ : (normPs (ps.take (k + 1))).map uidF = Z at hin
    refine tr_pre hΓ Δnil_ok 1 (hs := [.br true]) (ks := [0, 3, 4, 5, 6, 7]) (kills := []) (N := 2) (ts := (Sp L O i u X ats Y k).tmps) (H := Hp u X ats Y) (cs := [decide ((k : Int) < (X.length : Int)) = true]) (by kernel_rfl) ⟨by simp; omega, trivial⟩ ?_
    refine Tr.seq (R1 := fun e t => e = .normal ∧ t = Sp L O i u X ats Z k) (Tr.block hin) (fun t h _ => ?_) (fun e t he h => absurd h.1 he)
    rw [h.2]
    have hrun : rT (Γz e l e0) Δnil (cr (cr PB25)) (Sp L O i u X ats Z k) [] [0, 3, 4, 5, 6, 7] [] 2 = some (.normal, (Sp L O i u X ats Z (IntKind.i64.wrap ((k : Int) + 1))).tmps, Hp u X ats Z, []) := by kernel_rfl
    refine tr_run hΓ Δnil_ok hrun trivial ⟨k + 1, ⟨?_, by omega⟩, by show ps.length - (k + 1) < ps.length - k; omega⟩
    rw [step1 (by omega), hZ]; rfl
  · have hil : k = ps.length := by omega
    subst hil
    rw [List.take_length]
    generalize (normPs ps).map uidF = Y
    have hrun : rT (Γz e l e0) Δnil PB25 (Sp L O i u X ats Y ps.length) [.br false] [0, 3, 4, 5, 6, 7] [] 2 = some (.exit 2, (Sp L O i u X ats Y ps.length).tmps, Hp u X ats Y, [decide ((ps.length : Int) < (X.length : Int)) = false]) := by kernel_rfl
    exact tr_run hΓ Δnil_ok hrun ⟨by simp; omega, trivial⟩ ⟨rfl, rfl⟩
end Go.Proofs.Ai
