/- The walk of: who is above one, and there, has it below; the other way about likewise; and its plain law. -/
import Derived.Test.YtfjjeijkbhcoaaaAbGood9
import Derived.Test.YtfjjeijkbhcoaaaAbChain2
set_option linter.unusedVariables false
set_option linter.unusedSimpArgs false
namespace Go.Proofs.Ai
open Go

def Γ9 (es : List EntR) : PureT := fun f xs => match f, xs with
  | 24, [] => some (.boo true, true, [])
  | 26, [.fz (.sc (.int .i64 a)), .fz (.sc (.int .i64 n))] => some (.int (a % n), true, [0 < n ∧ n ≤ 1000000000000])
  | 25, [.fz (.sl 5 L)] => some (.fz (.sl 4 ((goodE es).map entF)), false, [L = es.map entRF])
  | 27, [.fz (.sl 4 els), .agg [.fz (.sc (.string a)), .fz (.sc (.string b))]] => some (.fz (.sl 2 ((belowS els (a, b)).map uidF)), false, [EntsOK els])
  | 28, [.fz (.sl 4 els), .agg [.fz (.sc (.string a)), .fz (.sc (.string b))], .agg [.fz (.sc (.string c)), .fz (.sc (.string d))]] => some (.boo (inB els (a, b) (c, d)), true, [EntsOK els])
  | _, _ => none
theorem Γ9_ok (es : List EntR) : PureOK Try.prog (Γ9 es) := by
  intro f xs r fresh c hg hc
  unfold Γ9 at hg
  split at hg
  · cases hg; exact c24
  · cases hg; exact c26 _ _ hc.1
  · cases hg
    obtain ⟨rfl, _⟩ := hc
    exact c25 es
  · cases hg; exact c27 _ (_, _) hc.1
  · cases hg; exact c28 _ (_, _) (_, _) hc.1
  · cases hg
noncomputable abbrev D4 : Code := post 3 (bodyOf Try.f4)
noncomputable abbrev L4 : Code := post 3 D4
noncomputable abbrev B4 : Code := cb (cb (cr (cl L4)))
noncomputable abbrev W4 : Code := cb (cl (cr B4))
noncomputable abbrev P4 : Code := post 1 W4
noncomputable abbrev I4 : Code := cb (cb (cr (cl P4)))
noncomputable abbrev E4 : Code := cr P4
abbrev H4 (u : Uid) : AHeap := [some (.var 25 [.str u.1, .str u.2])]
abbrev S4 (G X : List (List FV)) (u : Uid) (i : Int) : St := stOf (sp 73 [(5, .fz (.sl 4 G)), (6, .ptr 0 0), (7, .fz (.sl 2 X)), (8, .int i)]) (H4 u) 0
abbrev S4z (G X : List (List FV)) (u : Uid) (i : Int) (b : Bool) : St := stOf (sp 73 [(5, .fz (.sl 4 G)), (6, .ptr 0 0), (7, .fz (.sl 2 X)), (8, .int i), (9, .boo b)]) (H4 u) 0
abbrev S4i (G X : List (List FV)) (u : Uid) (i : Int) (b : Bool) (k : Int) : St := stOf (sp 73 [(5, .fz (.sl 4 G)), (6, .ptr 0 0), (7, .fz (.sl 2 X)), (8, .int i), (9, .boo b), (10, .int k)]) (H4 u) 0
abbrev post4 : AExit → St → Prop := retPost Try.prog Try.f4 (fun r1 H1 => snapR H1 r1 = some (.boo true))

def anyU (xs : List Uid) (v : Uid) (k : Nat) : Bool := (xs.take k).any fun x => x.1 == v.1 && x.2 == v.2
theorem anyU_succ {xs : List Uid} {v x : Uid} {k : Nat} (h : xs[k]? = some x) : anyU xs v (k + 1) = (anyU xs v k || (x.1 == v.1 && x.2 == v.2)) := by
  unfold anyU
  rw [List.take_add_one, h]
  simp
/-- The plain law: one is among those below just if it is another one, and in it. -/
theorem below_any (els : List (List FV)) (u v : Uid) (h : v ∈ els.map uidOf) : anyU (belowS els u) v (belowS els u).length = (!(v.1 == u.1 && v.2 == u.2) && inB els v u) := by
  unfold anyU
  rw [List.take_length]
  have hb : isBelow els u v = (!(v.1 == u.1 && v.2 == u.2) && inB els v u) := rfl
  rw [← hb]
  cases hi : isBelow els u v with
  | true =>
    rw [List.any_eq_true]
    exact ⟨v, List.mem_filter.2 ⟨h, hi⟩, by simp⟩
  | false =>
    rw [List.any_eq_false]
    intro x hx he
    simp only [Bool.and_eq_true, beq_iff_eq] at he
    have : x = v := Prod.ext he.1 he.2
    subst this
    rw [(List.mem_filter.1 hx).2] at hi
    cases hi

set_option maxRecDepth 100000 in
theorem inner4 (es : List EntR) (G : List (List FV)) (xs : List Uid) (u : Uid) (i : Nat) (e : EntD) (hG : G[i]? = some (entF e)) (hxl : xs.length ≤ 1000) {R : AExit → St → Prop} (h : Tr Try.prog E4 (S4i G (xs.map uidF) u i (anyU xs e.u xs.length) xs.length) R) :
    Tr Try.prog P4 (S4z G (xs.map uidF) u i false) R := by
  have hΓ := Γ9_ok es
  have hXl : (xs.map uidF).length = xs.length := by simp
  have hXg : ∀ (j : Nat) x, xs[j]? = some x → (xs.map uidF)[j]? = some (uidF x) := fun j x h => by rw [List.getElem?_map, h]; rfl
  generalize xs.map uidF = X at hXl hXg h
  have hc : 0 ≤ (i : Int) ∧ G[(i : Int).toNat]? = some (entF e) := ⟨by omega, by rw [Int.toNat_natCast]; exact hG⟩
  refine Tr.rangeAt (fun (k : Nat) t => t = S4i G X u i (anyU xs e.u k) k ∧ k ≤ xs.length) (fun k => xs.length - k) (fun t => t = S4i G X u i (anyU xs e.u xs.length) xs.length) (id := 2) (A := cl (cl P4)) (B := I4) (C := E4) (by kernel_rfl)
    (tr_run hΓ Δnil_ok (hs := []) (ks := [5, 6, 7, 8, 9, 10]) (kills := []) (N := 1) (e := .normal) (ts := (S4i G X u i false 0).tmps) (H := H4 u) (cs := []) (by kernel_rfl) trivial ⟨rfl, 0, rfl, Nat.zero_le _⟩) ?_ (fun t ht _ => by rw [ht]; exact h)
  rintro k t ⟨rfl, hi⟩
  by_cases hlt : k < xs.length
  · have hx : xs[k]? = some xs[k] := List.getElem?_eq_getElem hlt
    generalize xs[k] = v at hx
    have hs := anyU_succ (v := e.u) hx
    have hd : decide ((k : Int) < (X.length : Int)) = true := by rw [decide_eq_true_iff]; omega
    have hcx : 0 ≤ (k : Int) ∧ X[(k : Int).toNat]? = some (uidF v) := ⟨by omega, by rw [Int.toNat_natCast]; exact hXg k v hx⟩
    cases hb : anyU xs e.u k with
    | true =>
      rw [hb, Bool.true_or] at hs
      have hrun : rT (Γ9 es) Δnil I4 (S4i G X u i true k) [.br true] [5, 6, 7, 8, 9, 10] [] 1 = some (.normal, (S4i G X u i true (IntKind.i64.wrap ((k : Int) + 1))).tmps, H4 u, [decide ((k : Int) < (X.length : Int)) = true]) := by kernel_rfl
      refine tr_run hΓ Δnil_ok hrun ⟨hd, trivial⟩ ⟨k + 1, ⟨?_, by omega⟩, by show xs.length - (k + 1) < xs.length - k; omega⟩
      rw [step1 (by omega), hs]; rfl
    | false =>
      rw [hb, Bool.false_or] at hs
      obtain ⟨w, ps, ats⟩ := e
      have hrun : rT (Γ9 es) Δnil I4 (S4i G X u i false k) [.br true, .el (uidF v), .el (entF ⟨w, ps, ats⟩)] [5, 6, 7, 8, 9, 10] [] 1 = some (.normal, (S4i G X u i (v.1 == w.1 && v.2 == w.2) (IntKind.i64.wrap ((k : Int) + 1))).tmps, H4 u, [0 ≤ (i : Int) ∧ G[(i : Int).toNat]? = some (entF ⟨w, ps, ats⟩), 0 ≤ (k : Int) ∧ X[(k : Int).toNat]? = some (uidF v), decide ((k : Int) < (X.length : Int)) = true]) := by kernel_rfl
      refine tr_run hΓ Δnil_ok hrun ⟨hc, hcx, hd, trivial⟩ ⟨k + 1, ⟨?_, by omega⟩, by show xs.length - (k + 1) < xs.length - k; omega⟩
      rw [step1 (by omega), hs]; rfl
  · have hil : k = xs.length := by omega
    subst hil
    generalize anyU xs e.u xs.length = b
    have hrun : rT (Γ9 es) Δnil I4 (S4i G X u i b xs.length) [.br false] [5, 6, 7, 8, 9, 10] [] 1 = some (.exit 2, (S4i G X u i b xs.length).tmps, H4 u, [decide ((xs.length : Int) < (X.length : Int)) = false]) := by kernel_rfl
    exact tr_run hΓ Δnil_ok hrun ⟨by simp; omega, trivial⟩ ⟨rfl, rfl⟩

set_option maxRecDepth 100000 in
theorem loop4 (es : List EntR) (l : List EntD) (u : Uid) (hE : EntsOK (l.map entF)) (hl : l.length ≤ 12) : Tr Try.prog L4 (stOf (sp 73 [(5, .fz (.sl 4 (l.map entF))), (6, .ptr 0 0), (7, .fz (.sl 2 ((belowS (l.map entF) u).map uidF)))]) (H4 u) 0) post4 := by
  have hΓ := Γ9_ok es
  have hXl : (l.map entF).length = l.length := by simp
  have hXg : ∀ (j : Nat) x, l[j]? = some x → (l.map entF)[j]? = some (entF x) := fun j x h => by rw [List.getElem?_map, h]; rfl
  have hm : ∀ x ∈ l, x.u ∈ (l.map entF).map uidOf := fun x hx => List.mem_map.2 ⟨entF x, List.mem_map.2 ⟨x, hx, rfl⟩, rfl⟩
  generalize l.map entF = G at hE hXl hXg hm
  have hbl : (belowS G u).length ≤ 1000 := by
    have h1 : (belowS G u).length ≤ (G.map uidOf).length := List.length_filter_le _ _
    rw [List.length_map] at h1
    omega
  have hany := fun v => below_any G u v
  generalize belowS G u = xs at hbl hany
  refine Tr.rangeAt (fun (i : Nat) t => t = S4 G (xs.map uidF) u i ∧ i ≤ l.length) (fun i => l.length - i) (fun t => t = S4 G (xs.map uidF) u l.length) (id := 0) (A := cl (cl L4)) (B := B4) (C := cr L4) (by kernel_rfl)
    (by
      generalize xs.map uidF = X
      exact tr_run hΓ Δnil_ok (hs := []) (ks := [5, 6, 7, 8]) (kills := []) (N := 1) (e := .normal) (ts := (S4 G X u 0).tmps) (H := H4 u) (cs := []) (by kernel_rfl) trivial ⟨rfl, 0, rfl, Nat.zero_le _⟩) ?_ ?_
  · rintro i t ⟨rfl, hi⟩
    by_cases hlt : i < l.length
    · have hx : l[i]? = some l[i] := List.getElem?_eq_getElem hlt
      generalize l[i] = e at hx
      have hxx := hXg i e hx
      have hlaw := hany e.u (hm e (List.mem_of_getElem? hx))
      have hc : 0 ≤ (i : Int) ∧ G[(i : Int).toNat]? = some (entF e) := ⟨by omega, by rw [Int.toNat_natCast]; exact hxx⟩
      have hend : Tr Try.prog E4 (S4i G (xs.map uidF) u i (anyU xs e.u xs.length) xs.length) (blkPost 1 (fun e' t => e' = .normal ∧ t = S4 G (xs.map uidF) u i)) := by
        generalize anyU xs e.u xs.length = b at hlaw
        generalize xs.map uidF = X
        obtain ⟨v, ps, ats⟩ := e
        have hlaw : b = (!(v.1 == u.1 && v.2 == u.2) && inB G v u) := hlaw
        cases hq : (v.1 == u.1 && v.2 == u.2) with
        | true =>
          have hrun : rT (Γ9 es) Δnil E4 (S4i G X u i b xs.length) [.el (entF ⟨v, ps, ats⟩), .is .neq (.bool false), .br false, .br false] [5, 6, 7, 8] [] 1 = some (.normal, (S4 G X u i).tmps, H4 u, [(!(b == false)) = false, false = false, Value.bool (!(v.1 == u.1 && v.2 == u.2)) = .bool false, 0 ≤ (i : Int) ∧ G[(i : Int).toNat]? = some (entF ⟨v, ps, ats⟩)]) := by kernel_rfl
          exact tr_run hΓ Δnil_ok hrun ⟨by rw [hlaw, hq]; simp, rfl, by rw [hq]; rfl, hc, trivial⟩ ⟨rfl, rfl⟩
        | false =>
          have hrun : rT (Γ9 es) Δnil E4 (S4i G X u i b xs.length) [.el (entF ⟨v, ps, ats⟩), .is .neq (.bool true), .el (entF ⟨v, ps, ats⟩), .br true, .br false] [5, 6, 7, 8] [] 1 = some (.normal, (S4 G X u i).tmps, H4 u, [(!(b == inB G (v.1, v.2) (u.1, u.2))) = false, true = true, EntsOK G, 0 ≤ (i : Int) ∧ G[(i : Int).toNat]? = some (entF ⟨v, ps, ats⟩), Value.bool (!(v.1 == u.1 && v.2 == u.2)) = .bool true, 0 ≤ (i : Int) ∧ G[(i : Int).toNat]? = some (entF ⟨v, ps, ats⟩)]) := by kernel_rfl
          exact tr_run hΓ Δnil_ok hrun ⟨by rw [hlaw, hq]; simp, rfl, hE, hc, by rw [hq]; rfl, hc, trivial⟩ ⟨rfl, rfl⟩
      have hin := inner4 es G xs u i e hxx hbl hend
      generalize xs.map uidF = X at hin
      refine tr_pre hΓ Δnil_ok 1 (hs := [.br true]) (ks := [5, 6, 7, 8]) (kills := []) (N := 1) (ts := (S4 G X u i).tmps) (H := H4 u) (cs := [decide ((i : Int) < (G.length : Int)) = true]) (by kernel_rfl) ⟨by simp; omega, trivial⟩ ?_
      refine Tr.seq (R1 := fun e t => e = .normal ∧ t = S4 G X u i) (Tr.block (tr_pre hΓ Δnil_ok 1 (hs := []) (ks := [5, 6, 7, 8, 9]) (kills := []) (N := 1) (ts := (S4z G X u i false).tmps) (H := H4 u) (cs := []) (by kernel_rfl) trivial hin)) (fun t h _ => ?_) (fun e t he h => absurd h.1 he)
      rw [h.2]
      have hrun : rT (Γ9 es) Δnil (cr (cr B4)) (S4 G X u i) [] [5, 6, 7, 8] [] 1 = some (.normal, (S4 G X u (IntKind.i64.wrap ((i : Int) + 1))).tmps, H4 u, []) := by kernel_rfl
      refine tr_run hΓ Δnil_ok hrun trivial ⟨i + 1, ⟨?_, by omega⟩, by show l.length - (i + 1) < l.length - i; omega⟩
      rw [step1 (by omega)]; rfl
    · have hil : i = l.length := by omega
      subst hil
      generalize xs.map uidF = X
      have hrun : rT (Γ9 es) Δnil B4 (S4 G X u l.length) [.br false] [5, 6, 7, 8] [] 1 = some (.exit 0, (S4 G X u l.length).tmps, H4 u, [decide ((l.length : Int) < (G.length : Int)) = false]) := by kernel_rfl
      exact tr_run hΓ Δnil_ok hrun ⟨by simp; omega, trivial⟩ ⟨rfl, rfl⟩
  · rintro t rfl _
    generalize xs.map uidF = X
    have hrun : rT (Γ9 es) Δnil (cr L4) (S4 G X u l.length) [] [4] [] 1 = some (.ret, sp 73 [(4, .boo true)], H4 u, []) := by kernel_rfl
    exact tr_run hΓ Δnil_ok hrun trivial ⟨.boo true, by kernel_rfl, by show snapR _ _ = _; kernel_rfl⟩

set_option maxRecDepth 100000 in
theorem c4 (es : List EntR) (n : Int) : PureAt Try.prog 4 [.fz (.sl 5 (es.map entRF)), .int n] (.boo true) true := by
  have hΓ := Γ9_ok es
  have hfine := goodE_fine es
  have hE := goodE_ents es
  have hloop := fun u => loop4 es (goodE es) u hE hfine.len
  have hXl : ((goodE es).map entF).length = (goodE es).length := by simp
  have hXg : ∀ (j : Nat) x, (goodE es)[j]? = some x → ((goodE es).map entF)[j]? = some (entF x) := fun j x h => by rw [List.getElem?_map, h]; rfl
  have hlen := hfine.len
  refine PureAt.scalar (pureAt_of_fun (fun_of_tr Try.func4 (c := bodyOf Try.f4) (by kernel_rfl) (Nat.le_refl _) ?_))
  generalize hL : es.map entRF = L
  refine tr_pre hΓ Δnil_ok 3 (hs := []) (ks := [1, 5]) (kills := []) (N := 0) (ts := sp 73 [(1, .int n), (5, .fz (.sl 4 ((goodE es).map entF)))]) (H := []) (cs := [L = es.map entRF]) (by kernel_rfl) ⟨hL.symm, trivial⟩ ?_
  generalize (goodE es).map entF = G at hE hloop hXl hXg
  by_cases h0 : (goodE es).length = 0
  · have hrun : rT (Γ9 es) Δnil D4 (stOf (sp 73 [(1, .int n), (5, .fz (.sl 4 G))]) [] 0) [.br true] [4] [] 0 = some (.ret, sp 73 [(4, .boo true)], [], [((G.length : Int) == 0) = true]) := by kernel_rfl
    exact tr_run hΓ Δnil_ok hrun ⟨by rw [beq_iff_eq]; omega, trivial⟩ ⟨.boo true, by kernel_rfl, by show snapR _ _ = _; kernel_rfl⟩
  · have hpos : 0 < (G.length : Int) := by omega
    have hk0 := Int.emod_nonneg n (show (G.length : Int) ≠ 0 by omega)
    have hk1 := Int.emod_lt_of_pos n hpos
    have hlt : (n % (G.length : Int)).toNat < (goodE es).length := by omega
    have hy := hXg _ _ (List.getElem?_eq_getElem hlt)
    generalize (goodE es)[(n % (G.length : Int)).toNat] = e at hy
    obtain ⟨u, ps, ats⟩ := e
    have hlp := hloop u
    refine tr_pre hΓ Δnil_ok 3 (hs := [.br false, .el (entF ⟨u, ps, ats⟩)]) (ks := [5, 6, 7]) (kills := []) (N := 1) (ts := sp 73 [(5, .fz (.sl 4 G)), (6, .ptr 0 0), (7, .fz (.sl 2 ((belowS G (u.1, u.2)).map uidF)))]) (H := H4 u)
      (cs := [EntsOK G, 0 ≤ n % (G.length : Int) ∧ G[(n % (G.length : Int)).toNat]? = some (entF ⟨u, ps, ats⟩), 0 < (G.length : Int) ∧ (G.length : Int) ≤ 1000000000000, ((G.length : Int) == 0) = false]) (by kernel_rfl)
      ⟨hE, ⟨hk0, hy⟩, by omega, by rw [beq_eq_false_iff_ne]; omega, trivial⟩ hlp
end Go.Proofs.Ai
