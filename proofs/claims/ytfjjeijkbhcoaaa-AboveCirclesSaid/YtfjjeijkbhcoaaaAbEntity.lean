/- Contracts: an entity such as may be, of what it is made of. -/
import Derived.Test.YtfjjeijkbhcoaaaAbGood
import Derived.Test.YtfjjeijkbhcoaaaAbAdopt
set_option linter.unusedVariables false
set_option linter.unusedSimpArgs false
namespace Go.Proofs.Ai
open Go

def Γn : PureT := fun f xs => match f, xs with
  | 86, [.fz (.sc (.int .i64 a)), .fz (.sc (.int .i64 n))] => some (.int (a % n), true, [0 < n ∧ n ≤ 1000000000000])
  | _, _ => none
theorem Γn_ok : PureOK Try.prog Γn := by
  intro f xs r fresh c hg hc
  unfold Γn at hg
  split at hg
  · cases hg; exact c86 _ _ hc.1
  · cases hg
def names4 : List ByteArray := [⟨#[85, 115, 101, 114]⟩, ⟨#[71, 114, 111, 117, 112]⟩, ⟨#[68, 111, 99]⟩, ⟨#[84, 101, 97, 109]⟩]
def names7 : List ByteArray := [⟨#[97]⟩, ⟨#[97, 103, 101]⟩, ⟨#[105, 102]⟩, ⟨#[99, 111, 110, 116, 97, 105, 110, 115]⟩, ⟨#[112, 114, 105, 110, 99, 105, 112, 97, 108]⟩, ⟨#[95, 120]⟩, ⟨#[110, 97, 109, 101]⟩]
def kindS (n : Int) : ByteArray := names4.getD (n % 4).toNat noS
def nameS (n : Int) : ByteArray := names7.getD (n % 7).toNat noS
theorem strs_get {l : List ByteArray} {i : Nat} (h : i < l.length) : (l.map strF)[i]? = some [.str (l.getD i noS)] := by
  rw [List.getElem?_map, List.getD_eq_getElem?_getD, List.getElem?_eq_getElem h]
  rfl
set_option maxRecDepth 100000 in
theorem c85 (n : Int) : PureAt Try.prog 85 [.int n] (.str (kindS n)) true := by
  refine PureAt.scalar ?_
  have h0 := Int.emod_nonneg n (show (4 : Int) ≠ 0 by omega)
  have h1 := Int.emod_lt_of_pos n (show (0 : Int) < 4 by omega)
  have hg := strs_get (l := names4) (i := (n % 4).toNat) (by show _ < 4; omega)
  show PureAt Try.prog 85 _ (.str (names4.getD (n % 4).toNat noS)) false
  generalize names4.getD (n % 4).toNat noS = s at hg
  have hrun : callC Γn Δnil 85 [.int n] [.ok, .el [.str s]] = some (.str s, true, [(names4.map strF)[(n % 4).toNat]? = some [.str s], 0 ≤ n % 4 ∧ n % 4 < ((names4.map strF).length : Int), 0 < (4 : Int) ∧ (4 : Int) ≤ 1000000000000]) := by kernel_rfl
  exact pure_run Γn_ok Δnil_ok hrun ⟨hg, ⟨h0, h1⟩, by omega, trivial⟩
set_option maxRecDepth 100000 in
theorem c87 (n : Int) : PureAt Try.prog 87 [.int n] (.str (nameS n)) true := by
  refine PureAt.scalar ?_
  have h0 := Int.emod_nonneg n (show (7 : Int) ≠ 0 by omega)
  have h1 := Int.emod_lt_of_pos n (show (0 : Int) < 7 by omega)
  have hg := strs_get (l := names7) (i := (n % 7).toNat) (by show _ < 7; omega)
  show PureAt Try.prog 87 _ (.str (names7.getD (n % 7).toNat noS)) false
  generalize names7.getD (n % 7).toNat noS = s at hg
  have hrun : callC Γn Δnil 87 [.int n] [.ok, .el [.str s]] = some (.str s, true, [(names7.map strF)[(n % 7).toNat]? = some [.str s], 0 ≤ n % 7 ∧ n % 7 < ((names7.map strF).length : Int), 0 < (7 : Int) ∧ (7 : Int) ≤ 1000000000000]) := by kernel_rfl
  exact pure_run Γn_ok Δnil_ok hrun ⟨hg, ⟨h0, h1⟩, by omega, trivial⟩

/-! ### a good value by its cells -/
def rowN : List FV → Int
  | [_, .sc (.int .i64 n), _, _] => n
  | _ => 0
def rowS : List FV → List Int
  | [_, _, .sl 1 X, _] => X.map intOf
  | _ => []
def goodF (K N : Int) (X Y : List (List FV)) : Val := if 1 + K % 5 < 5 then plainV N (X.map intOf) (1 + K % 5) else .mk 5 false 0 noS noU (setV ((Y.take 8).map fun y => plainV (rowN y) (rowS y) (partK K)))
theorem goodF_eq (K N : Int) (s : List Int) (l : List RawD) : goodF K N (s.map intF) (l.map rawF) = goodV (.mk K N s l) := by
  show (if 1 + K % 5 < 5 then _ else _) = (if 1 + K % 5 < 5 then _ else _)
  rw [intOf_map]
  congr 3
  rw [← List.map_take, List.map_map]
  unfold partsV
  apply List.map_congr_left
  intro r _
  obtain ⟨k, n, s, l⟩ := r
  show plainV (rowN (rawF (.mk k n s l))) (rowS (rawF (.mk k n s l))) _ = _
  have : rawF (.mk k n s l) = [.int k, .int n, .sl 1 (s.map intF), .sl 4 (rawsF l)] := by simp [rawF]
  rw [this]
  show plainV n ((s.map intF).map intOf) _ = _
  rw [intOf_map]
  rfl
abbrev valQ (v : Val) : List FV := [.int (vK v), .boo (vB v), .int (vN v), .str (vS v), .str (vU v).1, .str (vU v).2, .sl 7 ((vLst v).map valF)]
theorem valQ_eq (v : Val) : valQ v = valF v := by
  obtain ⟨k, b, n, s, u, l⟩ := v
  simp [valF, valsF_map, vK, vB, vN, vS, vU, vLst]
def RawsOK (X Y : List (List FV)) : Prop := (∃ s : List Int, X = s.map intF) ∧ ∃ l : List RawD, Y = l.map rawF
def Γe : PureT := fun f xs => match f, xs with
  | 86, [.fz (.sc (.int .i64 a)), .fz (.sc (.int .i64 n))] => some (.int (a % n), true, [0 < n ∧ n ≤ 1000000000000])
  | 85, [.fz (.sc (.int .i64 a))] => some (.str (kindS a), true, [])
  | 87, [.fz (.sc (.int .i64 a))] => some (.str (nameS a), true, [])
  | 41, [.agg [.fz (.sc (.int .i64 K)), .fz (.sc (.int .i64 N)), .fz (.sl 1 X), .fz (.sl 4 Y)]] => some (.agg ((valQ (goodF K N X Y)).map AV.fz), false, [RawsOK X Y])
  | _, _ => none
theorem Γe_ok : PureOK Try.prog Γe := by
  intro f xs r fresh c hg hc
  unfold Γe at hg
  split at hg
  · cases hg; exact c86 _ _ hc.1
  · cases hg; exact c85 _
  · cases hg; exact c87 _
  · cases hg
    obtain ⟨⟨⟨s, rfl⟩, l, rfl⟩, _⟩ := hc
    rw [goodF_eq, valQ_eq]
    have := c41 (l := l) (s := s)
    simp only [rawV, rawF, rawsF_map] at this
    exact this _ _
  · cases hg

/-! ### Entity -/
def letS (z : Int) : ByteArray := ⟨(List.map (fun n => UInt8.ofNat n.toNat) [IntKind.u8.wrap (IntKind.i64.wrap z)]).toArray⟩
structure EntR where
  T : Int
  N : Int
  ps : List Int
  ns : List Int
  vs : List RawD
def parU (p : Int) : Uid := (kindS p, letS (97 + IntKind.i64.wrap (p.tdiv 4) % 5))
def cut3 (v : Val) : Val := .mk (vK v) (vB v) (vN v) (vS v) (vU v) ((vLst v).take 3)
def atsR (e : EntR) (i : Nat) : List (ByteArray × Val) := ((e.ns.zip e.vs).take i).map fun x => (nameS x.1, cut3 (goodV x.2))
def entR (e : EntR) : EntD := ⟨(kindS e.T, letS (97 + e.N % 5)), (e.ps.take 3).map parU, atsR e 3⟩
abbrev entRF (e : EntR) : List FV := [.int e.T, .int e.N, .sl 1 (e.ps.map intF), .sl 1 (e.ns.map intF), .sl 4 (e.vs.map rawF)]

abbrev V30 (T N : Int) (P M V : List (List FV)) : Option Blk := some (.var 50 [.int T, .int N, .fz (.sl 1 P), .fz (.sl 1 M), .fz (.sl 4 V)])
abbrev H30 (T N : Int) (P M V ps ats : List (List FV)) : AHeap := [V30 T N P M V, some (.var 29 zeroEnt), none, some (.var 29 [.str (kindS T), .str (letS (97 + N % 5)), .own 4, .own 5]), some (.row 25 2 ps), some (.row 35 8 ats)]
noncomputable abbrev L30 : Code := post 2 (bodyOf Try.f30)
noncomputable abbrev B30 : Code := cb (cb (cr (cl L30)))
noncomputable abbrev M30 : Code := cr L30
noncomputable abbrev C30 : Code := cb (cb (cr (cl M30)))
abbrev S30 (T N : Int) (P M V ps ats : List (List FV)) (i : Int) : St := stOf (sp 99 [(1, .ptr 0 0), (2, .ptr 1 0), (3, .ptr 3 0), (4, .int i)]) (H30 T N P M V ps ats) 0
abbrev S30b (T N : Int) (P M V ps ats : List (List FV)) (i : Int) : St := stOf (sp 99 [(1, .ptr 0 0), (2, .ptr 1 0), (3, .ptr 3 0), (5, .int i)]) (H30 T N P M V ps ats) 0

theorem atsR_succ {e : EntR} {i : Nat} {n : Int} {r : RawD} (h1 : e.ns[i]? = some n) (h2 : e.vs[i]? = some r) : atsR e (i + 1) = atsR e i ++ [(nameS n, cut3 (goodV r))] := by
  unfold atsR
  have hz : (e.ns.zip e.vs)[i]? = some (n, r) := by rw [List.getElem?_zip_eq_some]; exact ⟨h1, h2⟩
  rw [List.take_add_one, hz]
  simp
theorem atsR_length (e : EntR) (i : Nat) : (atsR e i).length ≤ i := by unfold atsR; simp; omega
theorem boolT {a b : Int} (h : a < b) : Value.bool (decide (a < b)) = .bool true := by rw [decide_eq_true h]
theorem boolF {a b : Int} (h : ¬ a < b) : Value.bool (decide (a < b)) = .bool false := by rw [decide_eq_false h]

set_option maxRecDepth 100000 in
theorem parents30 (T N : Int) (ps : List Int) (P M V : List (List FV)) (hPl : P.length = ps.length) (hPg : ∀ (i : Nat) p, ps[i]? = some p → P[i]? = some [.int p]) {R : AExit → St → Prop}
    (h : ∀ i, Tr Try.prog M30 (S30 T N P M V (((ps.take 3).map parU).map uidF) [] i) R) : Tr Try.prog L30 (stOf (sp 99 [(1, .ptr 0 0), (2, .ptr 1 0), (3, .ptr 3 0)]) (H30 T N P M V [] []) 0) R := by
  have hsz : szB 25 ≤ 100 := by decide +kernel
  refine Tr.rangeAt (fun (i : Nat) t => t = S30 T N P M V (((ps.take i).map parU).map uidF) [] i ∧ i ≤ min ps.length 3) (fun i => min ps.length 3 - i) (fun t => ∃ i, t = S30 T N P M V (((ps.take 3).map parU).map uidF) [] i) (id := 0) (A := cl (cl L30)) (B := B30) (C := M30) (by kernel_rfl)
    (tr_run Γe_ok Δnil_ok (hs := []) (ks := [1, 2, 3, 4]) (kills := []) (N := 6) (e := .normal) (ts := (S30 T N P M V [] [] 0).tmps) (H := H30 T N P M V [] []) (cs := []) (by kernel_rfl) trivial ⟨rfl, 0, rfl, Nat.zero_le _⟩) ?_ (fun t ht _ => by obtain ⟨i, rfl⟩ := ht; exact h i)
  rintro i t ⟨rfl, hi⟩
  by_cases hlt : i < ps.length
  · have hd := boolT (show (i : Int) < (P.length : Int) by omega)
    by_cases h3 : i < 3
    · have hd3 := boolT (show (i : Int) < 3 by omega)
      have hx : ps[i]? = some ps[i] := List.getElem?_eq_getElem hlt
      generalize ps[i] = p at hx
      have hpg := hPg i p hx
      have hs : (((ps.take (i + 1)).map parU).map uidF) = (((ps.take i).map parU).map uidF) ++ [uidF (parU p)] := by rw [List.take_add_one, hx]; simp
      have hol : (((ps.take i).map parU).map uidF).length ≤ 3 := by simp; omega
      generalize ((ps.take i).map parU).map uidF = out at hs hol
      have hc : 0 ≤ (i : Int) ∧ P[(i : Int).toNat]? = some [.int p] := ⟨by omega, by rw [Int.toNat_natCast]; exact hpg⟩
      have hrun : rT Γe Δnil B30 (S30 T N P M V out [] i) [.is .lss (.bool true), .is .lss (.bool true), .el [.int p], .el [.int p], .ok, .ok] [1, 2, 3, 4] [] 6 =
        some (.normal, (S30 T N P M V out [] (IntKind.i64.wrap ((i : Int) + 1))).tmps, H30 T N P M V (out ++ [uidF (parU p)]) [],
          [(out.length + 1) * szB 25 ≤ 140737488355328 ∧ out.length + 1 ≤ 140737488355328, 0 < (5 : Int) ∧ (5 : Int) ≤ 1000000000000, (4 : Int) ≠ 0, 0 ≤ (i : Int) ∧ P[(i : Int).toNat]? = some [.int p], 0 ≤ (i : Int) ∧ P[(i : Int).toNat]? = some [.int p],
            Value.bool (decide ((i : Int) < 3)) = .bool true, Value.bool (decide ((i : Int) < (P.length : Int))) = .bool true]) := by kernel_rfl
      refine tr_run Γe_ok Δnil_ok hrun ⟨?_, by omega, by omega, hc, hc, hd3, hd, trivial⟩ ⟨i + 1, ⟨?_, by omega⟩, by show min ps.length 3 - (i + 1) < min ps.length 3 - i; omega⟩
      · have := Nat.mul_le_mul (show out.length + 1 ≤ 4 by omega) hsz
        omega
      · rw [step1 (by omega), hs]; rfl
    · have hi3 : i = 3 := by omega
      subst hi3
      generalize ((ps.take 3).map parU).map uidF = out
      have hrun : rT Γe Δnil B30 (S30 T N P M V out [] (3 : Nat)) [.is .lss (.bool true), .is .lss (.bool false)] [1, 2, 3, 4] [] 6 = some (.exit 0, (S30 T N P M V out [] (3 : Nat)).tmps, H30 T N P M V out [], [Value.bool (decide (((3 : Nat) : Int) < 3)) = .bool false, Value.bool (decide (((3 : Nat) : Int) < (P.length : Int))) = .bool true]) := by kernel_rfl
      exact tr_run Γe_ok Δnil_ok hrun ⟨by simp, hd, trivial⟩ ⟨rfl, _, rfl⟩
  · have hil : i = ps.length := by omega
    have hd := boolF (show ¬ (i : Int) < (P.length : Int) by omega)
    have ht : ps.take i = ps.take 3 := by rw [hil, List.take_length, List.take_of_length_le (by omega)]
    rw [ht]
    generalize ((ps.take 3).map parU).map uidF = out
    have hrun : rT Γe Δnil B30 (S30 T N P M V out [] i) [.is .lss (.bool false)] [1, 2, 3, 4] [] 6 = some (.exit 0, (S30 T N P M V out [] i).tmps, H30 T N P M V out [], [Value.bool (decide ((i : Int) < (P.length : Int))) = .bool false]) := by kernel_rfl
    exact tr_run Γe_ok Δnil_ok hrun ⟨hd, trivial⟩ ⟨rfl, _, rfl⟩

theorem attrF_cut (nm : ByteArray) (v : Val) : attrF (nm, cut3 v) = [.str nm, .int (vK v), .boo (vB v), .int (vN v), .str (vS v), .str (vU v).1, .str (vU v).2, .sl 7 (((vLst v).map valF).take 3)] := by
  rw [← List.map_take]
  show .str nm :: valF (cut3 v) = _
  rw [← valQ_eq]
  rfl
abbrev atF (nm : ByteArray) (v : Val) (l : List (List FV)) : List FV := [.str nm, .int (vK v), .boo (vB v), .int (vN v), .str (vS v), .str (vU v).1, .str (vU v).2, .sl 7 l]

set_option maxRecDepth 100000 in
theorem attrs30 (e : EntR) (P M V ps : List (List FV)) (hMl : M.length = e.ns.length) (hMg : ∀ (i : Nat) n, e.ns[i]? = some n → M[i]? = some [.int n]) (hVl : V.length = e.vs.length) (hVg : ∀ (i : Nat) r, e.vs[i]? = some r → V[i]? = some (rawF r)) {R : AExit → St → Prop} (i0 : Int)
    (h : ∀ i, Tr Try.prog (cr M30) (S30b e.T e.N P M V ps ((atsR e 3).map attrF) i) R) : Tr Try.prog M30 (S30 e.T e.N P M V ps [] i0) R := by
  have hsz : szB 35 ≤ 1000 := by decide +kernel
  generalize hT : e.T = T
  generalize hN : e.N = N
  rw [hT, hN] at h
  refine Tr.rangeAt (fun (i : Nat) t => t = S30b T N P M V ps ((atsR e i).map attrF) i ∧ i ≤ min (min e.ns.length e.vs.length) 3) (fun i => min (min e.ns.length e.vs.length) 3 - i) (fun t => ∃ i, t = S30b T N P M V ps ((atsR e 3).map attrF) i) (id := 2) (A := cl (cl M30)) (B := C30) (C := cr M30) (by kernel_rfl)
    (tr_run Γe_ok Δnil_ok (hs := []) (ks := [1, 2, 3, 5]) (kills := []) (N := 6) (e := .normal) (ts := (S30b T N P M V ps [] 0).tmps) (H := H30 T N P M V ps []) (cs := []) (by kernel_rfl) trivial ⟨rfl, 0, rfl, Nat.zero_le _⟩) ?_ (fun t ht _ => by obtain ⟨i, rfl⟩ := ht; exact h i)
  rintro i t ⟨rfl, hi⟩
  have hend : ∀ j, min e.ns.length e.vs.length ≤ j → atsR e j = atsR e (min e.ns.length e.vs.length) := fun j hj => by
    unfold atsR
    rw [List.take_of_length_le (by simp; omega), List.take_of_length_le (by simp)]
  by_cases hln : i < e.ns.length
  · have hdn := boolT (show (i : Int) < (M.length : Int) by omega)
    by_cases hlv : i < e.vs.length
    · have hdv := boolT (show (i : Int) < (V.length : Int) by omega)
      by_cases h3 : i < 3
      · have hd3 := boolT (show (i : Int) < 3 by omega)
        have hx : e.ns[i]? = some e.ns[i] := List.getElem?_eq_getElem hln
        have hy : e.vs[i]? = some e.vs[i] := List.getElem?_eq_getElem hlv
        generalize e.ns[i] = m at hx
        generalize e.vs[i] = r at hy
        have hs0 := atsR_succ hx hy
        obtain ⟨k', n', s', l'⟩ := r
        have hyy := hVg i _ hy
        have hmm := hMg i _ hx
        have hrf : rawF (.mk k' n' s' l') = [.int k', .int n', .sl 1 (s'.map intF), .sl 4 (l'.map rawF)] := by simp [rawF, rawsF_map]
        rw [hrf] at hyy
        have hgf := goodF_eq k' n' s' l'
        have hok : RawsOK (s'.map intF) (l'.map rawF) := ⟨⟨_, rfl⟩, ⟨_, rfl⟩⟩
        generalize s'.map intF = X' at hok hgf hyy
        generalize l'.map rawF = Y' at hok hgf hyy
        rw [← hgf] at hs0
        have hs : (atsR e (i + 1)).map attrF = (atsR e i).map attrF ++ [atF (nameS m) (goodF k' n' X' Y') (((vLst (goodF k' n' X' Y')).map valF).take 3)] := by
          rw [hs0, List.map_append, List.map_cons, List.map_nil, attrF_cut]
        have hol : ((atsR e i).map attrF).length ≤ 3 := by have := atsR_length e i; simp; omega
        generalize (atsR e i).map attrF = out at hs hol
        have hc1 : 0 ≤ (i : Int) ∧ V[(i : Int).toNat]? = some [.int k', .int n', .sl 1 X', .sl 4 Y'] := ⟨by omega, by rw [Int.toNat_natCast]; exact hyy⟩
        have hc2 : 0 ≤ (i : Int) ∧ M[(i : Int).toNat]? = some [.int m] := ⟨by omega, by rw [Int.toNat_natCast]; exact hmm⟩
        have hchk : (out.length + 1) * szB 35 ≤ 140737488355328 ∧ out.length + 1 ≤ 140737488355328 := by
          have := Nat.mul_le_mul (show out.length + 1 ≤ 4 by omega) hsz
          omega
        by_cases hL : ((vLst (goodF k' n' X' Y')).map valF).length > 3
        · have hrun : rT Γe Δnil C30 (S30b T N P M V ps out i) [.is .lss (.bool true), .is .lss (.bool true), .is .lss (.bool true), .el [.int k', .int n', .sl 1 X', .sl 4 Y'], .br true, .ok, .el [.int m], .ok] [1, 2, 3, 5] [] 6 =
            some (.normal, (S30b T N P M V ps out (IntKind.i64.wrap ((i : Int) + 1))).tmps, H30 T N P M V ps (out ++ [atF (nameS m) (goodF k' n' X' Y') (((vLst (goodF k' n' X' Y')).map valF).take 3)]),
              [(out.length + 1) * szB 35 ≤ 140737488355328 ∧ out.length + 1 ≤ 140737488355328, 0 ≤ (i : Int) ∧ M[(i : Int).toNat]? = some [.int m],
                0 ≤ (0 : Int) ∧ (0 : Int) ≤ (3 : Int) ∧ (3 : Int) ≤ (((vLst (goodF k' n' X' Y')).map valF).length : Int), decide ((((vLst (goodF k' n' X' Y')).map valF).length : Int) > 3) = true, RawsOK X' Y',
                0 ≤ (i : Int) ∧ V[(i : Int).toNat]? = some [.int k', .int n', .sl 1 X', .sl 4 Y'], Value.bool (decide ((i : Int) < 3)) = .bool true, Value.bool (decide ((i : Int) < (V.length : Int))) = .bool true, Value.bool (decide ((i : Int) < (M.length : Int))) = .bool true]) := by kernel_rfl
          refine tr_run Γe_ok Δnil_ok hrun ⟨hchk, hc2, by omega, by rw [decide_eq_true_iff]; omega, hok, hc1, hd3, hdv, hdn, trivial⟩ ⟨i + 1, ⟨?_, by omega⟩, by show min (min e.ns.length e.vs.length) 3 - (i + 1) < min (min e.ns.length e.vs.length) 3 - i; omega⟩
          rw [step1 (by omega), hs]; rfl
        · have htk : ((vLst (goodF k' n' X' Y')).map valF).take 3 = (vLst (goodF k' n' X' Y')).map valF := List.take_of_length_le (by omega)
          rw [htk] at hs
          have hrun : rT Γe Δnil C30 (S30b T N P M V ps out i) [.is .lss (.bool true), .is .lss (.bool true), .is .lss (.bool true), .el [.int k', .int n', .sl 1 X', .sl 4 Y'], .br false, .el [.int m], .ok] [1, 2, 3, 5] [] 6 =
            some (.normal, (S30b T N P M V ps out (IntKind.i64.wrap ((i : Int) + 1))).tmps, H30 T N P M V ps (out ++ [atF (nameS m) (goodF k' n' X' Y') ((vLst (goodF k' n' X' Y')).map valF)]),
              [(out.length + 1) * szB 35 ≤ 140737488355328 ∧ out.length + 1 ≤ 140737488355328, 0 ≤ (i : Int) ∧ M[(i : Int).toNat]? = some [.int m], decide ((((vLst (goodF k' n' X' Y')).map valF).length : Int) > 3) = false, RawsOK X' Y',
                0 ≤ (i : Int) ∧ V[(i : Int).toNat]? = some [.int k', .int n', .sl 1 X', .sl 4 Y'], Value.bool (decide ((i : Int) < 3)) = .bool true, Value.bool (decide ((i : Int) < (V.length : Int))) = .bool true, Value.bool (decide ((i : Int) < (M.length : Int))) = .bool true]) := by kernel_rfl
          refine tr_run Γe_ok Δnil_ok hrun ⟨hchk, hc2, by rw [decide_eq_false_iff_not]; omega, hok, hc1, hd3, hdv, hdn, trivial⟩ ⟨i + 1, ⟨?_, by omega⟩, by show min (min e.ns.length e.vs.length) 3 - (i + 1) < min (min e.ns.length e.vs.length) 3 - i; omega⟩
          rw [step1 (by omega), hs]; rfl
      · have hi3 : i = 3 := by omega
        subst hi3
        generalize (atsR e 3).map attrF = out
        have hrun : rT Γe Δnil C30 (S30b T N P M V ps out (3 : Nat)) [.is .lss (.bool true), .is .lss (.bool true), .is .lss (.bool false)] [1, 2, 3, 5] [] 6 = some (.exit 2, (S30b T N P M V ps out (3 : Nat)).tmps, H30 T N P M V ps out, [Value.bool (decide (((3 : Nat) : Int) < 3)) = .bool false, Value.bool (decide (((3 : Nat) : Int) < (V.length : Int))) = .bool true, Value.bool (decide (((3 : Nat) : Int) < (M.length : Int))) = .bool true]) := by kernel_rfl
        exact tr_run Γe_ok Δnil_ok hrun ⟨by simp, hdv, hdn, trivial⟩ ⟨rfl, _, rfl⟩
    · have hd := boolF (show ¬ (i : Int) < (V.length : Int) by omega)
      have ht : atsR e i = atsR e 3 := by rw [hend i (by omega), hend 3 (by omega)]
      rw [ht]
      generalize (atsR e 3).map attrF = out
      have hrun : rT Γe Δnil C30 (S30b T N P M V ps out i) [.is .lss (.bool true), .is .lss (.bool false)] [1, 2, 3, 5] [] 6 = some (.exit 2, (S30b T N P M V ps out i).tmps, H30 T N P M V ps out, [Value.bool (decide ((i : Int) < (V.length : Int))) = .bool false, Value.bool (decide ((i : Int) < (M.length : Int))) = .bool true]) := by kernel_rfl
      exact tr_run Γe_ok Δnil_ok hrun ⟨hd, hdn, trivial⟩ ⟨rfl, _, rfl⟩
  · have hd := boolF (show ¬ (i : Int) < (M.length : Int) by omega)
    have ht : atsR e i = atsR e 3 := by rw [hend i (by omega), hend 3 (by omega)]
    rw [ht]
    generalize (atsR e 3).map attrF = out
    have hrun : rT Γe Δnil C30 (S30b T N P M V ps out i) [.is .lss (.bool false)] [1, 2, 3, 5] [] 6 = some (.exit 2, (S30b T N P M V ps out i).tmps, H30 T N P M V ps out, [Value.bool (decide ((i : Int) < (M.length : Int))) = .bool false]) := by kernel_rfl
    exact tr_run Γe_ok Δnil_ok hrun ⟨hd, trivial⟩ ⟨rfl, _, rfl⟩

set_option maxRecDepth 100000 in
theorem c30 (e : EntR) : PureAt Try.prog 30 [.agg ((entRF e).map AV.fz)] (entV (entR e)) false := by
  have hPl : (e.ps.map intF).length = e.ps.length := by simp
  have hPg : ∀ (i : Nat) p, e.ps[i]? = some p → (e.ps.map intF)[i]? = some [.int p] := fun i p h => by rw [List.getElem?_map, h]; rfl
  have hMl : (e.ns.map intF).length = e.ns.length := by simp
  have hMg : ∀ (i : Nat) p, e.ns[i]? = some p → (e.ns.map intF)[i]? = some [.int p] := fun i p h => by rw [List.getElem?_map, h]; rfl
  have hVl : (e.vs.map rawF).length = e.vs.length := by simp
  have hVg : ∀ (i : Nat) r, e.vs[i]? = some r → (e.vs.map rawF)[i]? = some (rawF r) := fun i r h => by rw [List.getElem?_map, h]; rfl
  show PureAt Try.prog 30 [.agg [.int e.T, .int e.N, .fz (.sl 1 (e.ps.map intF)), .fz (.sl 1 (e.ns.map intF)), .fz (.sl 4 (e.vs.map rawF))]] _ false
  generalize e.ps.map intF = P at hPl hPg
  generalize e.ns.map intF = M at hMl hMg
  generalize e.vs.map rawF = V at hVl hVg
  refine pureAt_of_fun (fun_of_tr Try.func30 (c := bodyOf Try.f30) (by kernel_rfl) (Nat.le_refl _) ?_)
  have hend : ∀ i, Tr Try.prog (cr M30) (S30b e.T e.N P M V (((e.ps.take 3).map parU).map uidF) ((atsR e 3).map attrF) i) (retPost Try.prog Try.f30 (fun r1 H1 => snapR H1 r1 = some (entV (entR e)))) := by
    intro i
    show Tr _ _ _ (retPost Try.prog Try.f30 (fun r1 H1 => snapR H1 r1 = some (.agg [.str (kindS e.T), .str (letS (97 + e.N % 5)), .fz (.sl 2 (((e.ps.take 3).map parU).map uidF)), .fz (.sl 8 ((atsR e 3).map attrF))])))
    generalize ((e.ps.take 3).map parU).map uidF = ps
    generalize (atsR e 3).map attrF = ats
    generalize e.T = T
    generalize e.N = N
    have hrun : rT Γe Δnil (cr M30) (S30b T N P M V ps ats i) [] [2] [4, 5] 2 = some (.ret, sp 99 [(2, .ptr 1 0)], [V30 T N P M V, some (.var 29 [.str (kindS T), .str (letS (97 + N % 5)), .fz (.sl 2 ps), .fz (.sl 8 ats)])], []) := by kernel_rfl
    exact tr_run Γe_ok Δnil_ok hrun trivial ⟨.agg [.str (kindS T), .str (letS (97 + N % 5)), .fz (.sl 2 ps), .fz (.sl 8 ats)], by kernel_rfl, by show snapR _ _ = _; kernel_rfl⟩
  have hA : Tr Try.prog L30 (stOf (sp 99 [(1, .ptr 0 0), (2, .ptr 1 0), (3, .ptr 3 0)]) (H30 e.T e.N P M V [] []) 0) (retPost Try.prog Try.f30 (fun r1 H1 => snapR H1 r1 = some (entV (entR e)))) :=
    parents30 e.T e.N e.ps P M V hPl hPg (fun i => attrs30 e P M V _ hMl hMg hVl hVg i hend)
  generalize (retPost Try.prog Try.f30 (fun r1 H1 => snapR H1 r1 = some (entV (entR e)))) = R at hA
  generalize e.T = T at hA
  generalize e.N = N at hA
  refine tr_pre Γe_ok Δnil_ok 2 (hs := []) (ks := [1, 2, 3]) (kills := [2]) (N := 4) (ts := sp 99 [(1, .ptr 0 0), (2, .ptr 1 0), (3, .ptr 3 0)]) (H := [V30 T N P M V, some (.var 29 zeroEnt), none, some (.var 29 [.str (kindS T), .str (letS (97 + N % 5)), .fz nilF0, .fz nilF0])]) (cs := [0 < (5 : Int) ∧ (5 : Int) ≤ 1000000000000]) (by kernel_rfl) ⟨by omega, trivial⟩ ?_
  refine Tr.view (View.adopt (v := 3) (j := 2) (ty := 25) (sz := 2) (s' := stOf (sp 99 [(1, .ptr 0 0), (2, .ptr 1 0), (3, .ptr 3 0)]) [V30 T N P M V, some (.var 29 zeroEnt), none, some (.var 29 [.str (kindS T), .str (letS (97 + N % 5)), .own 4, .fz nilF0]), some (.row 25 2 [])] 0) (by kernel_rfl)) ?_
  exact Tr.view (View.adopt (v := 3) (j := 3) (ty := 35) (sz := 8) (s' := stOf (sp 99 [(1, .ptr 0 0), (2, .ptr 1 0), (3, .ptr 3 0)]) (H30 T N P M V [] []) 0) (by kernel_rfl)) hA
end Go.Proofs.Ai
