/- Contracts: a uid of the entities, or of their parents, or another one. -/
import Derived.Test.YtfjjeijkbhcoaaaAbGood9
set_option linter.unusedVariables false
set_option linter.unusedSimpArgs false
namespace Go.Proofs.Ai
open Go

def id8 (l : List Int) : ByteArray := if l.length > 8 then ofS (l.take 8) else ofS l
set_option maxRecDepth 100000 in
theorem c131 (l : List Int) : PureAt Try.prog 131 [.fz (.sl 1 (l.map intF))] (.str (id8 l)) true := by
  refine PureAt.scalar ?_
  have hXl : (l.map intF).length = l.length := by simp
  have hX : IntRow (l.map intF) := ⟨l, rfl⟩
  have hX2 : IntRow ((l.map intF).take 8) := ⟨l.take 8, by rw [List.map_take]⟩
  have hm := intOf_map l
  have hm2 : ((l.map intF).take 8).map intOf = l.take 8 := by rw [← List.map_take, intOf_map]
  generalize l.map intF = X at hXl hX hX2 hm hm2
  by_cases h : l.length > 8
  · have hrun : callC Γs Δnil 131 [.fz (.sl 1 X)] [.br true, .ok] = some (.str (ofS ((X.take 8).map intOf)), true, [IntRow (X.take 8), 0 ≤ (0 : Int) ∧ (0 : Int) ≤ (8 : Int) ∧ (8 : Int) ≤ (X.length : Int), decide ((X.length : Int) > 8) = true]) := by kernel_rfl
    rw [hm2] at hrun
    unfold id8
    rw [if_pos h]
    exact pure_run Γs_ok Δnil_ok hrun ⟨hX2, by omega, by simp; omega, trivial⟩
  · have hrun : callC Γs Δnil 131 [.fz (.sl 1 X)] [.br false] = some (.str (ofS (X.map intOf)), true, [IntRow X, decide ((X.length : Int) > 8) = false]) := by kernel_rfl
    rw [hm] at hrun
    unfold id8
    rw [if_neg h]
    exact pure_run Γs_ok Δnil_ok hrun ⟨hX, by simp; omega, trivial⟩
def names5b : List ByteArray := [⟨#[85, 115, 101, 114]⟩, ⟨#[71, 114, 111, 117, 112]⟩, ⟨#[68, 111, 99]⟩, ⟨#[65, 99, 116, 105, 111, 110]⟩, ⟨#[105, 102]⟩]
def uid5 (n : Int) (l : List Int) : Uid := (names5b.getD (n % 5).toNat noS, id8 l)
def Γ5 : PureT := fun f xs => match f, xs with
  | 86, [.fz (.sc (.int .i64 a)), .fz (.sc (.int .i64 n))] => some (.int (a % n), true, [0 < n ∧ n ≤ 1000000000000])
  | 131, [.fz (.sl 1 X)] => some (.str (id8 (X.map intOf)), true, [IntRow X])
  | _, _ => none
theorem Γ5_ok : PureOK Try.prog Γ5 := by
  intro f xs r fresh c hg hc
  unfold Γ5 at hg
  split at hg
  · cases hg; exact c86 _ _ hc.1
  · cases hg
    obtain ⟨⟨l, rfl⟩, _⟩ := hc
    rw [intOf_map]
    exact c131 l
  · cases hg
set_option maxRecDepth 100000 in
theorem c101 (n : Int) (l : List Int) : PureAt Try.prog 101 [.int n, .fz (.sl 1 (l.map intF))] (uidV (uid5 n l)) false := by
  have hX : IntRow (l.map intF) := ⟨l, rfl⟩
  have hm := intOf_map l
  generalize l.map intF = X at hX hm
  have h0 := Int.emod_nonneg n (show (5 : Int) ≠ 0 by omega)
  have h1 := Int.emod_lt_of_pos n (show (0 : Int) < 5 by omega)
  have hg := strs_get (l := names5b) (i := (n % 5).toNat) (by show _ < 5; omega)
  show PureAt Try.prog 101 _ (uidV (names5b.getD (n % 5).toNat noS, id8 l)) false
  generalize names5b.getD (n % 5).toNat noS = s at hg
  have hrun : callC Γ5 Δnil 101 [.int n, .fz (.sl 1 X)] [.ok, .el [.str s]] = some (.agg [.str s, .str (id8 (X.map intOf))], true, [IntRow X, (names5b.map strF)[(n % 5).toNat]? = some [.str s], 0 ≤ n % 5 ∧ n % 5 < ((names5b.map strF).length : Int), 0 < (5 : Int) ∧ (5 : Int) ≤ 1000000000000]) := by kernel_rfl
  rw [hm] at hrun
  exact pure_run Γ5_ok Δnil_ok hrun ⟨hX, hg, ⟨h0, h1⟩, by omega, trivial⟩

/-! ### pick -/
def pickE (g : List EntD) (n : Int) : EntD := g.getD (IntKind.i64.wrap (n.tdiv 7) % (g.length : Int)).toNat zeroE
def pickU (g : List EntD) (n : Int) : Uid :=
  if g.length = 0 then uid5 n [] else if n.tmod 7 = 6 then uid5 n [] else
  if n.tmod 3 = 0 ∧ 0 < (pickE g n).ps.length then (pickE g n).ps.getD (IntKind.i64.wrap (n.tdiv 21) % ((pickE g n).ps.length : Int)).toNat noU else (pickE g n).u
def Γpk : PureT := fun f xs => match f, xs with
  | 26, [.fz (.sc (.int .i64 a)), .fz (.sc (.int .i64 n))] => some (.int (a % n), true, [0 < n ∧ n ≤ 1000000000000])
  | 101, [.fz (.sc (.int .i64 n)), .fz (.sc (.slice none 0 0))] => some (uidV (uid5 n []), false, [])
  | _, _ => none
theorem Γpk_ok : PureOK Try.prog Γpk := by
  intro f xs r fresh c hg hc
  unfold Γpk at hg
  split at hg
  · cases hg; exact c26 _ _ hc.1
  · cases hg
    exact (c101 _ []).wk rfl (fun i x y hx hy => by
      match i with
      | 0 => simp at hx hy; subst hx; subst hy; exact FW.refl _
      | 1 => simp at hx hy; subst hx; subst hy; exact FW.nilSl _ _ _
      | i + 2 => simp at hx)
  · cases hg
set_option maxRecDepth 100000 in
theorem c49 (g : List EntD) (n : Int) (hl : g.length ≤ 1000) (hf : ∀ e ∈ g, e.ps.length ≤ 1000) : PureAt Try.prog 49 [.fz (.sl 4 (g.map entF)), .int n] (uidV (pickU g n)) false := by
  have hXl : (g.map entF).length = g.length := by simp
  have hXg : ∀ (i : Nat) x, g[i]? = some x → (g.map entF)[i]? = some (entF x) := fun i x h => by rw [List.getElem?_map, h]; rfl
  generalize g.map entF = G at hXl hXg
  by_cases h0 : g.length = 0
  · have hp : pickU g n = uid5 n [] := by unfold pickU; rw [if_pos h0]
    rw [hp]
    have hrun : callC Γpk Δnil 49 [.fz (.sl 4 G), .int n] [.is .eql (.bool true)] = some (uidV (uid5 n []), true, [Value.bool ((G.length : Int) == 0) = .bool true]) := by kernel_rfl
    exact pure_run Γpk_ok Δnil_ok hrun ⟨by have : ((G.length : Int) == 0) = true := by rw [beq_iff_eq]; omega
                                           rw [this], trivial⟩
  · have hb0 : Value.bool ((G.length : Int) == 0) = .bool false := by
      have : ((G.length : Int) == 0) = false := by rw [beq_eq_false_iff_ne]; omega
      rw [this]
    by_cases h6 : n.tmod 7 = 6
    · have hp : pickU g n = uid5 n [] := by unfold pickU; rw [if_neg h0, if_pos h6]
      rw [hp]
      have hrun : callC Γpk Δnil 49 [.fz (.sl 4 G), .int n] [.is .eql (.bool false), .is .eql (.bool true)] = some (uidV (uid5 n []), true, [Value.bool (n.tmod 7 == 6) = .bool true, Value.bool ((G.length : Int) == 0) = .bool false]) := by kernel_rfl
      exact pure_run Γpk_ok Δnil_ok hrun ⟨by rw [h6]; rfl, hb0, trivial⟩
    · have hb6 : Value.bool (n.tmod 7 == 6) = .bool false := by
        have : (n.tmod 7 == 6) = false := by rw [beq_eq_false_iff_ne]; exact h6
        rw [this]
      have hq0 := Int.emod_nonneg (IntKind.i64.wrap (n.tdiv 7)) (show (G.length : Int) ≠ 0 by omega)
      have hq1 := Int.emod_lt_of_pos (IntKind.i64.wrap (n.tdiv 7)) (show (0 : Int) < (G.length : Int) by omega)
      have hpe : g[(IntKind.i64.wrap (n.tdiv 7) % (G.length : Int)).toNat]? = some (pickE g n) := by
        unfold pickE
        rw [← hXl]
        have hlt : (IntKind.i64.wrap (n.tdiv 7) % (G.length : Int)).toNat < g.length := by omega
        rw [List.getD_eq_getElem?_getD, List.getElem?_eq_getElem hlt]
        rfl
      have hpu : pickU g n = if n.tmod 3 = 0 ∧ 0 < (pickE g n).ps.length then (pickE g n).ps.getD (IntKind.i64.wrap (n.tdiv 21) % ((pickE g n).ps.length : Int)).toNat noU else (pickE g n).u := by unfold pickU; rw [if_neg h0, if_neg h6]
      rw [hpu]
      have hfe := hf _ (List.mem_of_getElem? hpe)
      have hce := hXg _ _ hpe
      generalize pickE g n = e at hce hfe
      have hce0 : 0 ≤ IntKind.i64.wrap (n.tdiv 7) % (G.length : Int) ∧ G[(IntKind.i64.wrap (n.tdiv 7) % (G.length : Int)).toNat]? = some (entF e) := ⟨hq0, hce⟩
      have hwl : 0 < (G.length : Int) ∧ (G.length : Int) ≤ 1000000000000 := by omega
      obtain ⟨u, ps, ats⟩ := e
      by_cases h3 : n.tmod 3 = 0
      · have hb3 : Value.bool (n.tmod 3 == 0) = .bool true := by rw [h3]; rfl
        by_cases hps : 0 < ps.length
        · rw [if_pos ⟨h3, hps⟩]
          have hPl : (ps.map uidF).length = ps.length := by simp
          have hPg : ∀ (i : Nat) x, ps[i]? = some x → (ps.map uidF)[i]? = some (uidF x) := fun i x h => by rw [List.getElem?_map, h]; rfl
          have hef : entF ⟨u, ps, ats⟩ = [.str u.1, .str u.2, .sl 2 (ps.map uidF), .sl 8 (ats.map attrF)] := rfl
          rw [hef] at hce0
          show PureAt Try.prog 49 _ (uidV (ps.getD (IntKind.i64.wrap (n.tdiv 21) % (ps.length : Int)).toNat noU)) false
          have hr0 := Int.emod_nonneg (IntKind.i64.wrap (n.tdiv 21)) (show (ps.length : Int) ≠ 0 by omega)
          have hr1 := Int.emod_lt_of_pos (IntKind.i64.wrap (n.tdiv 21)) (show (0 : Int) < (ps.length : Int) by omega)
          have hlt : (IntKind.i64.wrap (n.tdiv 21) % (ps.length : Int)).toNat < ps.length := by omega
          have hv : ps[(IntKind.i64.wrap (n.tdiv 21) % (ps.length : Int)).toNat]? = some (ps.getD (IntKind.i64.wrap (n.tdiv 21) % (ps.length : Int)).toNat noU) := by rw [List.getD_eq_getElem?_getD, List.getElem?_eq_getElem hlt]; rfl
          have hvg := hPg _ _ hv
          generalize ps.getD (IntKind.i64.wrap (n.tdiv 21) % (ps.length : Int)).toNat noU = v at hvg
          rw [← hPl] at hvg hr0 hr1
          have hps' : 0 < (ps.map uidF).length := by omega
          have hps2 : (ps.map uidF).length ≤ 1000 := by have : ps.length ≤ 1000 := hfe; omega
          generalize ps.map uidF = P at hvg hr0 hr1 hps' hps2 hce0
          generalize ats.map attrF = A at hce0
          have hrun : callC Γpk Δnil 49 [.fz (.sl 4 G), .int n] [.is .eql (.bool false), .is .eql (.bool false), .el [.str u.1, .str u.2, .sl 2 P, .sl 8 A], .is .eql (.bool true), .is .gtr (.bool true), .el (uidF v)] = some (.agg [.str v.1, .str v.2], true,
            [0 ≤ IntKind.i64.wrap (n.tdiv 21) % (P.length : Int) ∧ P[(IntKind.i64.wrap (n.tdiv 21) % (P.length : Int)).toNat]? = some (uidF v), 0 < (P.length : Int) ∧ (P.length : Int) ≤ 1000000000000, Value.bool (decide ((P.length : Int) > 0)) = .bool true, Value.bool (n.tmod 3 == 0) = .bool true,
              0 ≤ IntKind.i64.wrap (n.tdiv 7) % (G.length : Int) ∧ G[(IntKind.i64.wrap (n.tdiv 7) % (G.length : Int)).toNat]? = some [.str u.1, .str u.2, .sl 2 P, .sl 8 A], 0 < (G.length : Int) ∧ (G.length : Int) ≤ 1000000000000, Value.bool (n.tmod 7 == 6) = .bool false, Value.bool ((G.length : Int) == 0) = .bool false]) := by kernel_rfl
          exact pure_run Γpk_ok Δnil_ok hrun ⟨⟨hr0, hvg⟩, by omega, by rw [decide_eq_true (show (P.length : Int) > 0 by omega)], hb3, hce0, hwl, hb6, hb0, trivial⟩
        · rw [if_neg (fun h => hps h.2)]
          have hp0 : ((ps.map uidF).length : Int) = 0 := by simp; exact List.eq_nil_of_length_eq_zero (by omega)
          have hef : entF ⟨u, ps, ats⟩ = [.str u.1, .str u.2, .sl 2 (ps.map uidF), .sl 8 (ats.map attrF)] := rfl
          rw [hef] at hce0
          generalize ps.map uidF = P at hp0 hce0
          generalize ats.map attrF = A at hce0
          have hrun : callC Γpk Δnil 49 [.fz (.sl 4 G), .int n] [.is .eql (.bool false), .is .eql (.bool false), .el [.str u.1, .str u.2, .sl 2 P, .sl 8 A], .is .eql (.bool true), .is .gtr (.bool false)] = some (.agg [.str u.1, .str u.2], true,
            [Value.bool (decide ((P.length : Int) > 0)) = .bool false, Value.bool (n.tmod 3 == 0) = .bool true,
              0 ≤ IntKind.i64.wrap (n.tdiv 7) % (G.length : Int) ∧ G[(IntKind.i64.wrap (n.tdiv 7) % (G.length : Int)).toNat]? = some [.str u.1, .str u.2, .sl 2 P, .sl 8 A], 0 < (G.length : Int) ∧ (G.length : Int) ≤ 1000000000000, Value.bool (n.tmod 7 == 6) = .bool false, Value.bool ((G.length : Int) == 0) = .bool false]) := by kernel_rfl
          exact pure_run Γpk_ok Δnil_ok hrun ⟨by rw [decide_eq_false (show ¬ (P.length : Int) > 0 by omega)], hb3, hce0, hwl, hb6, hb0, trivial⟩
      · rw [if_neg (fun h => h3 h.1)]
        have hb3 : Value.bool (n.tmod 3 == 0) = .bool false := by
          have : (n.tmod 3 == 0) = false := by rw [beq_eq_false_iff_ne]; exact h3
          rw [this]
        have hef : entF ⟨u, ps, ats⟩ = [.str u.1, .str u.2, .sl 2 (ps.map uidF), .sl 8 (ats.map attrF)] := rfl
        rw [hef] at hce0
        generalize ps.map uidF = P at hce0
        generalize ats.map attrF = A at hce0
        have hrun : callC Γpk Δnil 49 [.fz (.sl 4 G), .int n] [.is .eql (.bool false), .is .eql (.bool false), .el [.str u.1, .str u.2, .sl 2 P, .sl 8 A], .is .eql (.bool false)] = some (.agg [.str u.1, .str u.2], true,
          [Value.bool (n.tmod 3 == 0) = .bool false, 0 ≤ IntKind.i64.wrap (n.tdiv 7) % (G.length : Int) ∧ G[(IntKind.i64.wrap (n.tdiv 7) % (G.length : Int)).toNat]? = some [.str u.1, .str u.2, .sl 2 P, .sl 8 A], 0 < (G.length : Int) ∧ (G.length : Int) ≤ 1000000000000, Value.bool (n.tmod 7 == 6) = .bool false, Value.bool ((G.length : Int) == 0) = .bool false]) := by kernel_rfl
        exact pure_run Γpk_ok Δnil_ok hrun ⟨hb3, hce0, hwl, hb6, hb0, trivial⟩
end Go.Proofs.Ai
