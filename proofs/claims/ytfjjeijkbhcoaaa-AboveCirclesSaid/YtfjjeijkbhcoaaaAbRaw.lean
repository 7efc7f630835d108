/- Contracts: values that are no sets, of what they are made of. -/
import Derived.Test.YtfjjeijkbhcoaaaAbText
import Derived.Test.YtfjjeijkbhcoaaaAbPut
set_option linter.unusedVariables false
set_option linter.unusedSimpArgs false
namespace Go.Proofs.Ai
open Go

def Γu : PureT := fun f xs => match f, xs with
  | 95, [.fz (.sl 1 X)] => some (.str (idS (X.map intOf)), true, [IntRow X])
  | _, _ => none
theorem Γu_ok : PureOK Try.prog Γu := by
  intro f xs r fresh c hg hc
  unfold Γu at hg
  split at hg
  · cases hg
    obtain ⟨⟨l, rfl⟩, _⟩ := hc
    rw [intOf_map]
    exact c95 l
  · cases hg
def names5 : List ByteArray := [⟨#[85, 115, 101, 114]⟩, ⟨#[71, 114, 111, 117, 112]⟩, ⟨#[68, 111, 99]⟩, ⟨#[65, 99, 116, 105, 111, 110]⟩, ⟨#[95, 120, 57]⟩]
abbrev strF (s : ByteArray) : List FV := [.str s]
/-- The uid that a raw value comes to. -/
def uidR (n : Int) (s : List Int) : Uid := (names5.getD (n.natAbs % 5) ⟨#[]⟩, idS s)
theorem tmod5 (n : Int) : (n.tmod 5 < 0 → IntKind.i64.wrap (0 - n.tmod 5) = ((n.natAbs % 5 : Nat) : Int)) ∧ (¬ n.tmod 5 < 0 → n.tmod 5 = ((n.natAbs % 5 : Nat) : Int)) := by
  rcases Int.natAbs_eq n with h | h
  · generalize n.natAbs = m at h
    subst h
    have : ((m : Int)).tmod 5 = ((m % 5 : Nat) : Int) := rfl
    rw [this]
    exact ⟨fun h => by omega, fun _ => rfl⟩
  · generalize n.natAbs = m at h
    subst h
    have : (-(m : Int)).tmod 5 = -((m % 5 : Nat) : Int) := by rw [Int.neg_tmod]; rfl
    rw [this]
    refine ⟨fun h => ?_, fun h => by omega⟩
    rw [IntWalk.i64_in _ (by omega)]
    omega
theorem names5_get (i : Nat) (h : i < 5) : (names5.map strF)[i]? = some [.str (names5.getD i ⟨#[]⟩)] := by
  have hi : i < names5.length := h
  rw [List.getElem?_map, List.getD_eq_getElem?_getD, List.getElem?_eq_getElem hi]
  rfl
set_option maxRecDepth 100000 in
theorem c57 (n : Int) (s : List Int) (a b : AV) (ha : ∃ k, a = .int k) (hb : ∃ Y, b = .fz (.sl 4 Y)) : PureAt Try.prog 57 [.agg [a, .int n, .fz (.sl 1 (s.map intF)), b]] (uidV (uidR n s)) false := by
  obtain ⟨k, rfl⟩ := ha
  obtain ⟨Y, rfl⟩ := hb
  have hX : IntRow (s.map intF) := ⟨s, rfl⟩
  have hm := intOf_map s
  generalize s.map intF = X at hX hm
  obtain ⟨t1, t2⟩ := tmod5 n
  have hlt : n.natAbs % 5 < 5 := Nat.mod_lt _ (by omega)
  have hget := names5_get _ hlt
  generalize hi : n.natAbs % 5 = i at t1 t2 hlt hget
  have hu : uidR n s = (names5.getD i ⟨#[]⟩, idS s) := by unfold uidR; rw [hi]
  rw [hu]
  generalize names5.getD i ⟨#[]⟩ = nm at hget
  by_cases hneg : n.tmod 5 < 0
  · have e := t1 hneg
    have hrun : callC Γu Δnil 57 [.agg [.int k, .int n, .fz (.sl 1 X), .fz (.sl 4 Y)]] [.br true, .ok, .el [.str nm]] = some (.agg [.str nm, .str (idS (X.map intOf))], true,
      [IntRow X, (names5.map strF)[(IntKind.i64.wrap (0 - n.tmod 5)).toNat]? = some [.str nm], 0 ≤ IntKind.i64.wrap (0 - n.tmod 5) ∧ IntKind.i64.wrap (0 - n.tmod 5) < ((names5.map strF).length : Int), decide (n.tmod 5 < 0) = true]) := by kernel_rfl
    rw [hm] at hrun
    exact pure_run Γu_ok Δnil_ok hrun ⟨hX, by rw [e, Int.toNat_natCast]; exact hget, by rw [e]; exact ⟨by omega, by show (i : Int) < 5; omega⟩, by simpa using hneg, trivial⟩
  · have e := t2 hneg
    have hrun : callC Γu Δnil 57 [.agg [.int k, .int n, .fz (.sl 1 X), .fz (.sl 4 Y)]] [.br false, .ok, .el [.str nm]] = some (.agg [.str nm, .str (idS (X.map intOf))], true,
      [IntRow X, (names5.map strF)[(n.tmod 5).toNat]? = some [.str nm], 0 ≤ n.tmod 5 ∧ n.tmod 5 < ((names5.map strF).length : Int), decide (n.tmod 5 < 0) = false]) := by kernel_rfl
    rw [hm] at hrun
    exact pure_run Γu_ok Δnil_ok hrun ⟨hX, by rw [e, Int.toNat_natCast]; exact hget, by rw [e]; exact ⟨by omega, by show (i : Int) < 5; omega⟩, by simpa using hneg, trivial⟩

/-! ### plain values -/
abbrev noU : Uid := (⟨#[]⟩, ⟨#[]⟩)
abbrev noS : ByteArray := ⟨#[]⟩
def plainV (n : Int) (s : List Int) (k : Int) : Val := if k = 1 then .mk 1 (n.tmod 2 == 0) 0 noS noU [] else if k = 2 then .mk 2 false n noS noU [] else if k = 3 then .mk 3 false 0 (idS s) noU [] else .mk 4 false 0 noS (uidR n s) []
def Γpl : PureT := fun f xs => match f, xs with
  | 95, [.fz (.sl 1 X)] => some (.str (idS (X.map intOf)), true, [IntRow X])
  | 57, [.agg [a, .fz (.sc (.int .i64 n)), .fz (.sl 1 X), b]] => some (uidV (uidR n (X.map intOf)), false, [IntRow X ∧ (∃ k, a = .int k) ∧ ∃ Y, b = .fz (.sl 4 Y)])
  | _, _ => none
theorem Γpl_ok : PureOK Try.prog Γpl := by
  intro f xs r fresh c hg hc
  unfold Γpl at hg
  split at hg
  · cases hg
    obtain ⟨⟨l, rfl⟩, _⟩ := hc
    rw [intOf_map]
    exact c95 l
  · cases hg
    obtain ⟨⟨⟨l, rfl⟩, h1, h2⟩, _⟩ := hc
    rw [intOf_map]
    exact c57 _ l _ _ h1 h2
  · cases hg
/-- A value with no set, its set called a row of nothing. -/
theorem agg_wk {l m : List FV} (h : RW l m) : AWk (.agg (l.map AV.fz)) (.agg (m.map AV.fz)) := ⟨by simp [h.1], fun i x y hx hy => by
  rw [List.getElem?_map] at hx hy
  obtain ⟨f, hf, rfl⟩ := Option.map_eq_some_iff.1 hx
  obtain ⟨g, hg, rfl⟩ := Option.map_eq_some_iff.1 hy
  exact ⟨f, g, rfl, rfl, h.2 i f g hf hg⟩⟩
theorem PureAt.resW {f : FuncId} {xs : List AV} {r r' : AV} {fresh : Bool} (h : PureAt Try.prog f xs r fresh) (hw : AWk r r') : PureAt Try.prog f xs r' fresh := h.res (fun ok w v hv => hw.rep hv)
abbrev nilF0 : FV := .sc (.slice none 0 0)
theorem val_rw (k : Int) (b : Bool) (n : Int) (s : ByteArray) (u : Uid) : RW [.int k, .boo b, .int n, .str s, .str u.1, .str u.2, nilF0] (valF (.mk k b n s u [])) :=
  .cons (.refl _) (.cons (.refl _) (.cons (.refl _) (.cons (.refl _) (.cons (.refl _) (.cons (.refl _) (.cons (.nilSl _ _ _) (.refl _)))))))
set_option maxRecDepth 100000 in
theorem c46 (k0 n : Int) (s : List Int) (Y : List (List FV)) (k : Int) (hk : 1 ≤ k ∧ k ≤ 4) : PureAt Try.prog 46 [.agg [.int k0, .int n, .fz (.sl 1 (s.map intF)), .fz (.sl 4 Y)], .int k] (valV (plainV n s k)) false := by
  have hX : IntRow (s.map intF) := ⟨s, rfl⟩
  have hm := intOf_map s
  generalize s.map intF = X at hX hm
  have hcs : k = 1 ∨ k = 2 ∨ k = 3 ∨ k = 4 := by omega
  rcases hcs with rfl | rfl | rfl | rfl
  · have hrun : callC Γpl Δnil 46 [.agg [.int k0, .int n, .fz (.sl 1 X), .fz (.sl 4 Y)], .int 1] [] = some (.agg ([.int 1, .boo (n.tmod 2 == 0), .int 0, .str noS, .str noS, .str noS, nilF0].map AV.fz), true, []) := by kernel_rfl
    exact (pure_run Γpl_ok Δnil_ok hrun trivial).resW (agg_wk (val_rw 1 (n.tmod 2 == 0) 0 noS noU))
  · have hrun : callC Γpl Δnil 46 [.agg [.int k0, .int n, .fz (.sl 1 X), .fz (.sl 4 Y)], .int 2] [] = some (.agg ([.int 2, .boo false, .int n, .str noS, .str noS, .str noS, nilF0].map AV.fz), true, []) := by kernel_rfl
    exact (pure_run Γpl_ok Δnil_ok hrun trivial).resW (agg_wk (val_rw 2 false n noS noU))
  · have hrun : callC Γpl Δnil 46 [.agg [.int k0, .int n, .fz (.sl 1 X), .fz (.sl 4 Y)], .int 3] [] = some (.agg ([.int 3, .boo false, .int 0, .str (idS (X.map intOf)), .str noS, .str noS, nilF0].map AV.fz), true, [IntRow X]) := by kernel_rfl
    rw [hm] at hrun
    exact (pure_run Γpl_ok Δnil_ok hrun ⟨hX, trivial⟩).resW (agg_wk (val_rw 3 false 0 (idS s) noU))
  · have hrun : callC Γpl Δnil 46 [.agg [.int k0, .int n, .fz (.sl 1 X), .fz (.sl 4 Y)], .int 4] [] = some (.agg ([.int 4, .boo false, .int 0, .str noS, .str (uidR n (X.map intOf)).1, .str (uidR n (X.map intOf)).2, nilF0].map AV.fz), true, [IntRow X ∧ (∃ k, AV.int k0 = .int k) ∧ ∃ Z, AV.fz (.sl 4 Y) = .fz (.sl 4 Z)]) := by kernel_rfl
    rw [hm] at hrun
    exact (pure_run Γpl_ok Δnil_ok hrun ⟨⟨hX, ⟨_, rfl⟩, ⟨_, rfl⟩⟩, trivial⟩).resW (agg_wk (val_rw 4 false 0 noS (uidR n s)))
end Go.Proofs.Ai
