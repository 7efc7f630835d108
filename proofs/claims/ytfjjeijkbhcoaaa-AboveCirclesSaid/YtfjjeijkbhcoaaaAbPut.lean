/- Contracts: entities apart are the same entities; one that is there is put in its place; a circle. -/
import Derived.Test.YtfjjeijkbhcoaaaAbAbove
set_option linter.unusedVariables false
set_option linter.unusedSimpArgs false
namespace Go.Proofs.Ai
open Go

noncomputable abbrev L81 : Code := post 2 (bodyOf Try.f81)
noncomputable abbrev B81 : Code := cb (cb (cr (cl L81)))
abbrev H81 (els : List (List FV)) : AHeap := [some (.row 29 4 []), some (.row 29 4 els)]
abbrev S81 (els : List (List FV)) (i : Int) : St := stOf (sp 22 [(3, .own 1), (8, .own 1), (9, .int els.length), (10, .int i)]) (H81 els) 0

set_option maxRecDepth 100000 in
theorem twins_tr (els : List (List FV)) (h : EntsOK els) : FunTr Try.prog 81 [.fz (.sl 4 els)] [] 0 (fun r H => ∃ b, r = .own b ∧ getH H b = some (.row 29 4 els)) := by
  have hl : els.length ≤ 1000000 := h.uids.2
  obtain ⟨l, hle, hlo, _⟩ := h
  refine fun_of_tr Try.func81 (c := bodyOf Try.f81) (by kernel_rfl) (Nat.le_refl _) ?_
  refine tr_pre Γat_ok Δcl_ok 2 (hs := []) (ks := [3]) (kills := []) (N := 2) (ts := sp 22 [(3, .own 1)]) (H := H81 els) (cs := [els.length ≤ 1000000]) (by kernel_rfl) ⟨hl, trivial⟩ ?_
  refine Tr.rangeAt (fun (i : Nat) t => t = S81 els i ∧ i ≤ els.length) (fun i => els.length - i) (fun t => t = S81 els els.length) (id := 0) (A := cl (cl L81)) (B := B81) (C := cr L81) (by kernel_rfl)
    (tr_run Γat_ok Δcl_ok (hs := []) (ks := [3, 8, 9, 10]) (kills := []) (N := 2) (e := .normal) (ts := (S81 els 0).tmps) (H := H81 els) (cs := []) (by kernel_rfl) trivial ⟨rfl, 0, rfl, Nat.zero_le _⟩) ?_ ?_
  · rintro i t ⟨rfl, hi⟩
    by_cases hlt : i < els.length
    · have hx : els[i]? = some els[i] := List.getElem?_eq_getElem hlt
      have hmem : els[i] ∈ l.map entF := by rw [← hle]; exact List.getElem_mem hlt
      obtain ⟨e, he, heq⟩ := List.mem_map.1 hmem
      rw [← heq] at hx
      have hoe := hlo e he
      have hw : IntKind.i64.wrap ((i : Int) + 1) = ((i + 1 : Nat) : Int) := by rw [IntWalk.i64_in _ (by omega)]; omega
      obtain ⟨u, ps, ats⟩ := e
      have hrun : rT Γat Δcl B81 (S81 els i) [.br true, .ok, .el (entF ⟨u, ps, ats⟩), .ok, .el (entF ⟨u, ps, ats⟩)] [3, 8, 9, 10] [] 2 =
          some (.normal, sp 22 [(3, .own 1), (8, .own 1), (9, .int els.length), (10, .int (IntKind.i64.wrap ((i : Int) + 1)))], H81 (els.set (i : Int).toNat (entF ⟨u, ps, ats⟩)),
            [els[(i : Int).toNat]? = some (entF ⟨u, ps, ats⟩), 0 ≤ (i : Int) ∧ (i : Int) < (els.length : Int), ∃ e, entOK e ∧ entV ⟨u, ps, ats⟩ = entV e,
              els[(i : Int).toNat]? = some (entF ⟨u, ps, ats⟩), 0 ≤ (i : Int) ∧ (i : Int) < (els.length : Int), decide ((i : Int) < (els.length : Int)) = true]) := by kernel_rfl
      refine tr_run Γat_ok Δcl_ok hrun ⟨by simpa using hx, ⟨by omega, by omega⟩, ⟨_, hoe, rfl⟩, by simpa using hx, ⟨by omega, by omega⟩, by simp; omega, trivial⟩ ?_
      rw [Int.toNat_natCast, set_self hx, hw]
      exact ⟨i + 1, ⟨rfl, by omega⟩, by show els.length - (i + 1) < els.length - i; omega⟩
    · have hil : i = els.length := by omega
      subst hil
      have hrun : rT Γat Δcl B81 (S81 els els.length) [.br false] [3, 8, 9, 10] [] 2 =
          some (.exit 0, (S81 els els.length).tmps, H81 els, [decide ((els.length : Int) < (els.length : Int)) = false]) := by kernel_rfl
      exact tr_run Γat_ok Δcl_ok hrun ⟨by simp, trivial⟩ ⟨rfl, rfl⟩
  · rintro t rfl _
    have hrun : rT Γat Δcl (cr L81) (S81 els els.length) [] [2] [] 2 = some (.ret, sp 22 [(2, .own 1)], H81 els, []) := by kernel_rfl
    exact tr_run Γat_ok Δcl_ok hrun trivial ⟨.own 1, by kernel_rfl, 1, rfl, rfl⟩

def Δtw : HeapT := fun f l H => match f, l with
  | 81, [.fz (.sl 4 xs)] => some (.own H.length, H ++ [some (.row 29 4 xs)], [EntsOK xs])
  | _, _ => none
theorem Δtw_ok : HeapOK Try.prog Δtw := by
  intro f l H r H' c h hc
  unfold Δtw at h
  split at h
  · cases h; exact heapAt_push rfl rfl (twins_tr _ hc.1)
  · cases h

theorem c29 (els : List (List FV)) (e : EntD) (h : EntsOK els) (ho : entOK e) (hf : foundAt els e.u = true) : PureAt Try.prog 29 [.fz (.sl 4 els), entV e] (.fz (.sl 4 (els.set (seek els e.u) (entF e)))) false := by
  obtain ⟨l, hle, hlo, _⟩ := id h
  obtain ⟨y, hy⟩ : ∃ y, els[seek els e.u]? = some y := by
    unfold foundAt at hf
    split at hf
    · rename_i x hx; exact ⟨x, hx⟩
    · cases hf
  have hlt : seek els e.u < els.length := (List.getElem?_eq_some_iff.1 hy).1
  have hmem : y ∈ l.map entF := by rw [← hle]; exact List.mem_of_getElem? hy
  obtain ⟨e', _, rfl⟩ := List.mem_map.1 hmem
  obtain ⟨u, ps, ats⟩ := e
  obtain ⟨u', ps', ats'⟩ := e'
  have hrun : callC Γat Δtw 29 [.fz (.sl 4 els), entV ⟨u, ps, ats⟩] [.br true, .ok, .el (entF ⟨u', ps', ats'⟩)] = some (.fz (.sl 4 (els.set (seek els (u.1, u.2) : Int).toNat (entF ⟨u, ps, ats⟩))), true,
    [els[(seek els (u.1, u.2) : Int).toNat]? = some (entF ⟨u', ps', ats'⟩), 0 ≤ (seek els (u.1, u.2) : Int) ∧ (seek els (u.1, u.2) : Int) < (els.length : Int), ∃ e, entOK e ∧ entV ⟨u, ps, ats⟩ = entV e, foundAt els (u.1, u.2) = true, UidsOK els, EntsOK els]) := by kernel_rfl
  have := pure_run Γat_ok Δtw_ok hrun ⟨by rw [Int.toNat_natCast]; exact hy, ⟨by omega, by have : seek els (u.1, u.2) < els.length := hlt; omega⟩, ⟨_, ho, rfl⟩, hf, h.uids, h, trivial⟩
  rw [Int.toNat_natCast] at this
  exact this

/-! ### what an empty slice may be called -/
def FW (f g : FV) : Prop := ∀ w ok v, RepF w ok f v → RepF w ok g v
theorem FW.refl (f : FV) : FW f f := fun _ _ _ h => h
theorem FW.nilSl (A : Option Addr) (c sz : Nat) : FW (.sc (.slice A 0 c)) (.sl sz []) := by
  intro w ok v h
  cases h
  exact .nil
theorem FW.sl {sz : Nat} {xs ys : List (List FV)} (hl : ys.length = xs.length) (h : ∀ (i : Nat) x y, xs[i]? = some x → ys[i]? = some y → y.length = x.length ∧ ∀ (j : Nat) f g, x[j]? = some f → y[j]? = some g → FW f g) : FW (.sl sz xs) (.sl sz ys) := by
  intro w ok v hr
  cases hr with
  | nil =>
    have : ys = [] := List.eq_nil_of_length_eq_zero (by simpa using hl)
    subst this
    exact .nil
  | sl U hc hok hsz hcell hrep =>
    rw [← hl]
    have hx : ∀ (i : Nat) y, ys[i]? = some y → ∃ x, xs[i]? = some x ∧ y.length = x.length ∧ ∀ (j : Nat) g, y[j]? = some g → ∃ f, x[j]? = some f ∧ FW f g := by
      intro i y hy
      have hi : i < xs.length := by have := (List.getElem?_eq_some_iff.1 hy).1; omega
      obtain ⟨h1, h2⟩ := h i _ y (List.getElem?_eq_getElem hi) hy
      refine ⟨_, List.getElem?_eq_getElem hi, h1, fun j g hg => ?_⟩
      have hj : j < xs[i].length := by have := (List.getElem?_eq_some_iff.1 hg).1; omega
      exact ⟨_, List.getElem?_eq_getElem hj, h2 j _ g (List.getElem?_eq_getElem hj) hg⟩
    refine .sl U (by omega) hok (fun i y hy => ?_) (fun i j y g hy hg => ?_) (fun i j y g hy hg => ?_)
    · obtain ⟨x, e1, e2, _⟩ := hx i y hy; rw [e2]; exact hsz i x e1
    · obtain ⟨x, e1, _, e3⟩ := hx i y hy
      obtain ⟨f, e4, _⟩ := e3 j g hg
      exact hcell i j x f e1 e4
    · obtain ⟨x, e1, _, e3⟩ := hx i y hy
      obtain ⟨f, e4, e5⟩ := e3 j g hg
      exact e5 _ _ _ (hrep i j x f e1 e4)
def RW (x y : List FV) : Prop := y.length = x.length ∧ ∀ (j : Nat) f g, x[j]? = some f → y[j]? = some g → FW f g
theorem RW.refl (x : List FV) : RW x x := ⟨rfl, fun j f g h1 h2 => by rw [h1] at h2; cases h2; exact .refl f⟩
theorem RW.cons {f g : FV} {x y : List FV} (h : FW f g) (hr : RW x y) : RW (f :: x) (g :: y) := ⟨by simp [hr.1], fun j a b h1 h2 => by
  cases j with
  | zero => simp at h1 h2; subst h1; subst h2; exact h
  | succ j => exact hr.2 j a b (by simpa using h1) (by simpa using h2)⟩
theorem FW.slMap {sz : Nat} {xs : List (List FV)} {k : List FV → List FV} (h : ∀ x, RW x (k x)) : FW (.sl sz xs) (.sl sz (xs.map k)) := .sl (by simp) (fun i x y hx hy => by
  rw [List.getElem?_map, hx] at hy
  cases hy
  exact h x)
def nr (sz : Nat) : FV → FV
  | .sc (.slice _ 0 _) => .sl sz []
  | f => f
theorem nr_fw (sz : Nat) (f : FV) : FW f (nr sz f) := by
  unfold nr
  split
  · exact .nilSl _ _ _
  · exact .refl _
def nrV : Nat → List FV → List FV
  | n + 1, [k, b, m, s, t, i, .sl 7 ys] => [k, b, m, s, t, i, .sl 7 (ys.map (nrV n))]
  | _, [k, b, m, s, t, i, l] => [k, b, m, s, t, i, nr 7 l]
  | _, x => x
theorem nrV_rw : ∀ (n : Nat) (x : List FV), RW x (nrV n x) := by
  intro n
  induction n with
  | zero =>
    intro x
    unfold nrV
    split
    · rename_i h; cases h
    · exact .cons (.refl _) (.cons (.refl _) (.cons (.refl _) (.cons (.refl _) (.cons (.refl _) (.cons (.refl _) (.cons (nr_fw _ _) (.refl _)))))))
    · exact .refl _
  | succ n ih =>
    intro x
    unfold nrV
    split
    · rename_i h; cases h; exact .cons (.refl _) (.cons (.refl _) (.cons (.refl _) (.cons (.refl _) (.cons (.refl _) (.cons (.refl _) (.cons (.slMap ih) (.refl _)))))))
    · exact .cons (.refl _) (.cons (.refl _) (.cons (.refl _) (.cons (.refl _) (.cons (.refl _) (.cons (.refl _) (.cons (nr_fw _ _) (.refl _)))))))
    · exact .refl _
def nrA : List FV → List FV
  | a :: x => a :: nrV 2 x
  | x => x
theorem nrA_rw (x : List FV) : RW x (nrA x) := by
  cases x with
  | nil => exact .refl _
  | cons a x => exact .cons (.refl _) (nrV_rw 2 x)
def nrE : List FV → List FV
  | [a, b, c, .sl 8 ys] => [a, b, nr 2 c, .sl 8 (ys.map nrA)]
  | [a, b, c, d] => [a, b, nr 2 c, nr 8 d]
  | x => x
theorem nrE_rw (x : List FV) : RW x (nrE x) := by
  unfold nrE
  split
  · exact .cons (.refl _) (.cons (.refl _) (.cons (nr_fw _ _) (.cons (.slMap nrA_rw) (.refl _))))
  · exact .cons (.refl _) (.cons (.refl _) (.cons (nr_fw _ _) (.cons (nr_fw _ _) (.refl _))))
  · exact .refl _
abbrev nrL (els : List (List FV)) : List (List FV) := els.map nrE
theorem nrL_fw (els : List (List FV)) : FW (.sl 4 els) (.sl 4 (nrL els)) := .slMap nrE_rw
/-- An argument by another name. -/
def AWk : AV → AV → Prop
  | .fz f, .fz g => FW f g
  | .agg l, .agg m => m.length = l.length ∧ ∀ (i : Nat) x y, l[i]? = some x → m[i]? = some y → ∃ f g, x = .fz f ∧ y = .fz g ∧ FW f g
  | x, y => x = y
theorem AWk.rep {x y : AV} (h : AWk x y) {μ : Nat → Value} {H : AHeap} {w : World} {ok : Nat → Prop} {v : Value} (hx : Rep μ H w ok x v) : Rep μ H w ok y v := by
  unfold AWk at h
  split at h
  · cases hx with
    | fz hf => exact .fz (h _ _ _ hf)
    | dead hr => simp [refOf] at hr
  · obtain ⟨h1, h2⟩ := h
    refine hx.agg2 h1 (fun i x y hx hy u hu => ?_)
    obtain ⟨f, g, rfl, rfl, hfg⟩ := h2 i x y hx hy
    cases hu with
    | fz hf => exact .fz (hfg _ _ _ hf)
    | dead hr => simp [refOf] at hr
  · rw [← h]; exact hx
theorem PureAt.wk {f : FuncId} {xs bs : List AV} {r : AV} {fresh : Bool} (h : PureAt Try.prog f bs r fresh) (hl : xs.length = bs.length) (hab : ∀ (i : Nat) (x y : AV), xs[i]? = some x → bs[i]? = some y → AWk x y) : PureAt Try.prog f xs r fresh :=
  h.args hl (fun i x y hx hy ok w v hv => (hab i x y hx hy).rep hv)

/-! ### Circle -/
def setE (els : List (List FV)) (u : Uid) (ps ats : List (List FV)) : List (List FV) := els.set (seek els u) [.str u.1, .str u.2, .sl 2 ps, .sl 8 ats]
def Γp : PureT := fun f xs => match f, xs with
  | 31, [.fz (.sl 4 els), .agg [.fz (.sc (.string a)), .fz (.sc (.string b))]] => some (entRes els (a, b), false, [EntsOK els])
  | 80, [.fz (.sl 4 els), .fz (.sl 2 fr)] => some (.fz (.mp (setEs (climbS els (fr.map uidOf))) (climbS els (fr.map uidOf)).length), true, [EntsOK els, UidRow fr])
  | 29, [.fz (.sl 4 els), .agg [.fz (.sc (.string a)), .fz (.sc (.string b)), .fz (.sc (.slice none 0 0)), .fz (.sl 8 ats)]] => some (.fz (.sl 4 (setE els (a, b) [] ats)), false, [EntsOK els ∧ foundAt els (a, b) = true ∧ ∃ e, entOK e ∧ entF e = [.str a, .str b, .sl 2 [], .sl 8 ats]])
  | _, _ => none
theorem Γp_ok : PureOK Try.prog Γp := by
  intro f xs r fresh c hg hc
  unfold Γp at hg
  split at hg
  · cases hg; exact c31 _ (_, _) hc.1
  · cases hg
    obtain ⟨h1, ⟨⟨l, rfl⟩, h2⟩, _⟩ := hc
    rw [uidOf_map]
    exact c80 _ l h1 (by simpa using h2)
  · cases hg
    rename_i els a b ats
    obtain ⟨⟨h1, h2, e, h3, h4⟩, _⟩ := hc
    have hu : e.u = (a, b) := by
      obtain ⟨u, ps, ats'⟩ := e
      simp only [entF, List.cons.injEq, FV.sc.injEq, Value.string.injEq] at h4
      exact Prod.ext h4.1 h4.2.1
    have := c29 els e h1 h3 (by rw [hu]; exact h2)
    rw [hu, h4] at this
    refine this.wk rfl (fun i x y hx hy => ?_)
    have hv : entV e = .agg [.str a, .str b, .fz (.sl 2 []), .fz (.sl 8 ats)] := by show AV.agg ((entF e).map AV.fz) = _; rw [h4]; rfl
    match i with
    | 0 => simp at hx hy; subst hx; subst hy; exact FW.refl _
    | 1 =>
      simp only [List.getElem?_cons_succ, List.getElem?_cons_zero, Option.some.injEq] at hx hy
      subst hx
      rw [hv] at hy
      subst hy
      refine ⟨rfl, fun i x y hx hy => ?_⟩
      match i with
      | 0 => simp at hx hy; subst hx; subst hy; exact ⟨_, _, rfl, rfl, .refl _⟩
      | 1 => simp at hx hy; subst hx; subst hy; exact ⟨_, _, rfl, rfl, .refl _⟩
      | 2 => simp at hx hy; subst hx; subst hy; exact ⟨_, _, rfl, rfl, .nilSl _ _ _⟩
      | 3 => simp at hx hy; subst hx; subst hy; exact ⟨_, _, rfl, rfl, .refl _⟩
      | i + 4 => simp at hx
    | i + 2 => simp at hx
  · cases hg

def circE (els : List (List FV)) (u : Uid) : List (List FV) := if foundAt els u then setE els (strAt (entAt els u) 0, strAt (entAt els u) 1) [] (slAt (entAt els u) 3) else els
def circS (els : List (List FV)) (u : Uid) (ps : List Uid) : Bool := (climbS (circE els u) ps).contains u
theorem entAt_ent {els : List (List FV)} (h : EntsOK els) (u : Uid) : ∃ e, entOK e ∧ entAt els u = entF e ∧ (foundAt els u = true → e.u = u) := by
  obtain ⟨l, rfl, hl, _⟩ := h
  cases hf : foundAt (l.map entF) u with
  | false => exact ⟨zeroE, by simp [entOK, zeroE], by unfold entAt; rw [hf]; rfl, fun h => by cases h⟩
  | true =>
    obtain ⟨h1, h2⟩ := entAt_found hf
    obtain ⟨e, he, q⟩ := List.mem_map.1 h1
    refine ⟨e, hl e he, q.symm, fun _ => ?_⟩
    rw [← q] at h2
    exact h2
theorem setE_ok {els : List (List FV)} (h : EntsOK els) (e : EntD) (he : entOK e) (k : Nat) : EntsOK (els.set k (entF e)) := by
  obtain ⟨l, rfl, hl, hn⟩ := h
  refine ⟨l.set k e, by rw [List.map_set], fun x hx => ?_, by simpa using hn⟩
  rcases List.mem_or_eq_of_mem_set hx with hx | rfl
  · exact hl x hx
  · exact he
theorem circE_ok {els : List (List FV)} (h : EntsOK els) (u : Uid) : EntsOK (circE els u) := by
  unfold circE
  split
  · obtain ⟨⟨eu, eps, eats⟩, he, q, _⟩ := entAt_ent h u
    rw [q]
    exact setE_ok h ⟨eu, [], eats⟩ ⟨by simp, he.2.1, he.2.2⟩ _
  · exact h

set_option maxRecDepth 100000 in
theorem c51 (els : List (List FV)) (u : Uid) (ps : List Uid) (h : EntsOK els) (hp : ps.length ≤ 1000000) : PureAt Try.prog 51 [.fz (.sl 4 els), uidV u, .fz (.sl 2 (ps.map uidF))] (.boo (circS els u ps)) true := by
  refine PureAt.scalar ?_
  have hur : UidRow (ps.map uidF) := ⟨⟨ps, rfl⟩, by simpa using hp⟩
  cases hf : foundAt els u with
  | true =>
    obtain ⟨e, he, q, hu⟩ := entAt_ent h u
    have hu := hu hf
    have hce : circE els u = setE els (strAt (entAt els u) 0, strAt (entAt els u) 1) [] (slAt (entAt els u) 3) := by unfold circE; rw [if_pos hf]
    have hok := circE_ok h u
    have huids := uidOf_map ps
    unfold circS
    rw [hce] at hok ⊢
    generalize hX : ps.map uidF = X at hur huids ⊢
    have hrun : callC Γp Δnil 51 [.fz (.sl 4 els), uidV u, .fz (.sl 2 X)] [.br true] = some (.boo (hasKey (setEs (climbS (setE els (strAt (entAt els (u.1, u.2)) 0, strAt (entAt els (u.1, u.2)) 1) [] (slAt (entAt els (u.1, u.2)) 3)) (X.map uidOf))) u.1 u.2), true,
      [SetLike (setEs (climbS (setE els (strAt (entAt els (u.1, u.2)) 0, strAt (entAt els (u.1, u.2)) 1) [] (slAt (entAt els (u.1, u.2)) 3)) (X.map uidOf))), EntsOK (setE els (strAt (entAt els (u.1, u.2)) 0, strAt (entAt els (u.1, u.2)) 1) [] (slAt (entAt els (u.1, u.2)) 3)), UidRow X,
        EntsOK els ∧ foundAt els (strAt (entAt els (u.1, u.2)) 0, strAt (entAt els (u.1, u.2)) 1) = true ∧ ∃ e, entOK e ∧ entF e = [.str (strAt (entAt els (u.1, u.2)) 0), .str (strAt (entAt els (u.1, u.2)) 1), .sl 2 [], .sl 8 (slAt (entAt els (u.1, u.2)) 3)], foundAt els (u.1, u.2) = true, EntsOK els]) := by kernel_rfl
    rw [hasKey_set, huids] at hrun
    refine pure_run Γp_ok Δnil_ok hrun ⟨setEs_like _, hok, hur, ⟨h, ?_, ?_⟩, hf, h, trivial⟩
    · show foundAt els (strAt (entAt els u) 0, strAt (entAt els u) 1) = true
      rw [q]
      show foundAt els e.u = true
      rw [hu]; exact hf
    · show ∃ e', entOK e' ∧ entF e' = [.str (strAt (entAt els u) 0), .str (strAt (entAt els u) 1), .sl 2 [], .sl 8 (slAt (entAt els u) 3)]
      rw [q]
      exact ⟨⟨e.u, [], e.ats⟩, ⟨by simp, he.2.1, he.2.2⟩, rfl⟩
  | false =>
    have hce : circE els u = els := by unfold circE; rw [hf]; rfl
    unfold circS
    rw [hce]
    have huids := uidOf_map ps
    generalize hX : ps.map uidF = X at hur huids ⊢
    have hrun : callC Γp Δnil 51 [.fz (.sl 4 els), uidV u, .fz (.sl 2 X)] [.br false] = some (.boo (hasKey (setEs (climbS els (X.map uidOf))) u.1 u.2), true, [SetLike (setEs (climbS els (X.map uidOf))), EntsOK els, UidRow X, foundAt els (u.1, u.2) = false, EntsOK els]) := by kernel_rfl
    rw [hasKey_set, huids] at hrun
    exact pure_run Γp_ok Δnil_ok hrun ⟨setEs_like _, h, hur, hf, h, trivial⟩
end Go.Proofs.Ai
