/- Contracts: texts and uids are held against one another. -/
import Derived.Test.YtfjjeijkbhcoaaaBiCon
import Derived.Sort.Walk0
set_option linter.unusedVariables false
set_option linter.unusedSimpArgs false
namespace Go.Proofs.Ai
open Go

def ltS (x y : ByteArray) : Bool := Op.bytesLess x.toList y.toList
def cmpS (x y : ByteArray) : Int := if ltS x y then -1 else if ltS y x then 1 else 0
abbrev Uid := ByteArray × ByteArray
def ltU (a b : Uid) : Bool := ltS a.1 b.1 || (a.1 == b.1 && ltS a.2 b.2)
def cmpU (a b : Uid) : Int := if ltU a b then -1 else if ltU b a then 1 else 0
abbrev uidV (a : Uid) : AV := .agg [.str a.1, .str a.2]

theorem eq_toList (a b : ByteArray) : (a.toList == b.toList) = (a == b) := by
  rw [ByteArray.toList_eq, ByteArray.toList_eq]
  have h1 := beq_ba a b
  cases hab : (a == b) with
  | true => rw [h1.1 hab]; simp
  | false =>
    rw [beq_eq_false_iff_ne]
    intro h
    have : a = b := by
      cases a with | mk x => cases b with | mk y =>
      simp only at h
      congr 1
      exact Array.ext' h
    rw [h1.2 this] at hab
    cases hab
theorem ltS_lt (x y : ByteArray) : ltS x y = decide (x.data.toList < y.data.toList) := by
  unfold ltS
  rw [bytesLess_eq, ByteArray.toList_eq, ByteArray.toList_eq]
theorem ba_ext {x y : ByteArray} (h : x.data.toList = y.data.toList) : x = y := by
  cases x with | mk a => cases y with | mk b =>
  simp only at h
  congr 1
  exact Array.ext' h
theorem ltS_irrefl (x : ByteArray) : ltS x x = false := by rw [ltS_lt]; simp [List.lt_irrefl]
theorem ltS_trans {x y z : ByteArray} (h1 : ltS x y = true) (h2 : ltS y z = true) : ltS x z = true := by
  rw [ltS_lt] at *
  simp only [decide_eq_true_eq] at *
  exact List.lt_trans h1 h2
theorem ltS_asymm {x y : ByteArray} (h : ltS x y = true) : ltS y x = false := by
  cases h2 : ltS y x with
  | false => rfl
  | true => have := ltS_trans h h2; rw [ltS_irrefl] at this; cases this
theorem ltS_tri {x y : ByteArray} (h1 : ltS x y = false) (h2 : ltS y x = false) : x = y := by
  rw [ltS_lt] at h1 h2
  simp only [decide_eq_false_iff_not] at h1 h2
  exact ba_ext (List.le_antisymm (List.not_lt.1 h2) (List.not_lt.1 h1))
theorem ltU_irrefl (x : Uid) : ltU x x = false := by simp [ltU, ltS_irrefl]
theorem ltU_trans {x y z : Uid} (h1 : ltU x y = true) (h2 : ltU y z = true) : ltU x z = true := by
  unfold ltU at *
  simp only [Bool.or_eq_true, Bool.and_eq_true, beq_ba] at *
  rcases h1 with h1 | ⟨e1, h1⟩ <;> rcases h2 with h2 | ⟨e2, h2⟩
  · exact .inl (ltS_trans h1 h2)
  · exact .inl (e2 ▸ h1)
  · exact .inl (e1 ▸ h2)
  · exact .inr ⟨e1.trans e2, ltS_trans h1 h2⟩
theorem ltU_asymm {x y : Uid} (h : ltU x y = true) : ltU y x = false := by
  cases h2 : ltU y x with
  | false => rfl
  | true => have := ltU_trans h h2; rw [ltU_irrefl] at this; cases this
theorem ltU_tri {x y : Uid} (h1 : ltU x y = false) (h2 : ltU y x = false) : x = y := by
  unfold ltU at *
  simp only [Bool.or_eq_false_iff, Bool.and_eq_false_iff] at h1 h2
  have e := ltS_tri h1.1 h2.1
  have e' : (x.1 == y.1) = true := (beq_ba _ _).2 e
  have e'' : (y.1 == x.1) = true := (beq_ba _ _).2 e.symm
  have := ltS_tri (h1.2.resolve_left (by rw [e']; simp)) (h2.2.resolve_left (by rw [e'']; simp))
  exact Prod.ext e this

/-! ### the library's -/
theorem c161 (x : ByteArray) : PureAt Try.prog 161 [.str x] (.boo false) true := by
  have h : callC Γnil Δnil 161 [.str x] [] = some (.boo (!(x.toList == x.toList)), true, []) := by kernel_rfl
  have := (pure_run Γnil_ok Δnil_ok h trivial).scalar
  simpa using this
def Γo1 : PureT := fun f l => match f, l with
  | 161, [.fz (.sc (.string _))] => some (.boo false, true, [])
  | _, _ => none
theorem Γo1_ok : PureOK Try.prog Γo1 := by
  intro f l r fresh c h _
  unfold Γo1 at h
  split at h
  · cases h; exact c161 _
  · cases h
theorem c137 (x y : ByteArray) : PureAt Try.prog 137 [.str x, .str y] (.int (cmpS x y)) true := by
  refine PureAt.scalar ?_
  have e : (!(Op.bytesLess x.toList y.toList || x.toList == y.toList)) = (!ltS x y && !(x == y)) := by
    rw [eq_toList]; simp [ltS]
  cases h1 : ltS x y with
  | true =>
    have h : callC Γo1 Δnil 137 [.str x, .str y] [.br false, .br false, .br true] = some (.int (-1), true, [Op.bytesLess x.toList y.toList = true, false = false, false = false]) := by kernel_rfl
    have := pure_run Γo1_ok Δnil_ok h ⟨h1, rfl, rfl, trivial⟩
    simpa [cmpS, h1] using this
  | false =>
    cases h2 : ltS y x with
    | true =>
      have h : callC Γo1 Δnil 137 [.str x, .str y] [.br false, .br false, .br false, .br true] = some (.int 1, true, [(!(Op.bytesLess x.toList y.toList || x.toList == y.toList)) = true, Op.bytesLess x.toList y.toList = false, false = false, false = false]) := by kernel_rfl
      have hne : (x == y) = false := by
        cases hxy : (x == y) with
        | false => rfl
        | true => rw [(beq_ba _ _).1 hxy, ltS_irrefl] at h2; cases h2
      have := pure_run Γo1_ok Δnil_ok h ⟨by rw [e, h1, hne]; rfl, h1, rfl, rfl, trivial⟩
      simpa [cmpS, h1, h2] using this
    | false =>
      have h : callC Γo1 Δnil 137 [.str x, .str y] [.br false, .br false, .br false, .br false] = some (.int 0, true, [(!(Op.bytesLess x.toList y.toList || x.toList == y.toList)) = false, Op.bytesLess x.toList y.toList = false, false = false, false = false]) := by kernel_rfl
      have hne : (x == y) = true := (beq_ba _ _).2 (ltS_tri h1 h2)
      have := pure_run Γo1_ok Δnil_ok h ⟨by rw [e, h1, hne]; rfl, h1, rfl, rfl, trivial⟩
      simpa [cmpS, h1, h2] using this
theorem c136 (a b : Int) : PureAt Try.prog 136 [.fz (.sl 1 [[.int a], [.int b]])] (.int (if a = 0 then b else a)) true := by
  refine PureAt.scalar ?_
  by_cases ha : a = 0
  · by_cases hb : b = 0
    · have h : callC Γnil Δnil 136 [.fz (.sl 1 [[.int a], [.int b]])] [.br true, .br false, .br true, .br false, .br false] = some (.int 0, true, [decide ((2 : Int) < 2) = false, (b != 0) = false, decide ((1 : Int) < 2) = true, (a != 0) = false, decide ((0 : Int) < 2) = true]) := by kernel_rfl
      have := pure_run Γnil_ok Δnil_ok h ⟨by decide, by simp [hb], by decide, by simp [ha], by decide, trivial⟩
      simpa [ha, hb] using this
    · have h : callC Γnil Δnil 136 [.fz (.sl 1 [[.int a], [.int b]])] [.br true, .br false, .br true, .br true] = some (.int b, true, [(b != 0) = true, decide ((1 : Int) < 2) = true, (a != 0) = false, decide ((0 : Int) < 2) = true]) := by kernel_rfl
      have := pure_run Γnil_ok Δnil_ok h ⟨by simp [hb], by decide, by simp [ha], by decide, trivial⟩
      simpa [ha] using this
  · have h : callC Γnil Δnil 136 [.fz (.sl 1 [[.int a], [.int b]])] [.br true, .br true] = some (.int a, true, [(a != 0) = true, decide ((0 : Int) < 2) = true]) := by kernel_rfl
    have := pure_run Γnil_ok Δnil_ok h ⟨by simp [ha], by decide, trivial⟩
    simpa [ha] using this
def Γo2 : PureT := fun f l => match f, l with
  | 161, [.fz (.sc (.string _))] => some (.boo false, true, [])
  | 137, [.fz (.sc (.string x)), .fz (.sc (.string y))] => some (.int (cmpS x y), true, [])
  | 136, [.fz (.sl 1 [[.sc (.int .i64 a)], [.sc (.int .i64 b)]])] => some (.int (if a = 0 then b else a), true, [])
  | _, _ => none
theorem Γo2_ok : PureOK Try.prog Γo2 := by
  intro f l r fresh c h _
  unfold Γo2 at h
  split at h
  · cases h; exact c161 _
  · cases h; exact c137 _ _
  · cases h; exact c136 _ _
  · cases h

theorem cmpU_or (a b : Uid) : (if cmpS a.1 b.1 = 0 then cmpS a.2 b.2 else cmpS a.1 b.1) = cmpU a b := by
  unfold cmpU ltU cmpS
  cases h1 : ltS a.1 b.1 with
  | true => simp
  | false =>
    cases h2 : ltS b.1 a.1 with
    | true =>
      have : (a.1 == b.1) = false := by
        cases hxy : (a.1 == b.1) with
        | false => rfl
        | true => rw [(beq_ba _ _).1 hxy, ltS_irrefl] at h2; cases h2
      simp [this]
    | false =>
      have e := ltS_tri h1 h2
      have h3 : (a.1 == b.1) = true := (beq_ba _ _).2 e
      have h4 : (b.1 == a.1) = true := (beq_ba _ _).2 e.symm
      simp [h3, h4]
/-- (uid).compare of another uid. -/
theorem c107 (a b : Uid) : PureAt Try.prog 107 [uidV a, .ifc 150 (uidV b)] (.int (cmpU a b)) true := by
  refine PureAt.scalar ?_
  have h : callC Γo2 Δnil 107 [uidV a, .ifc 150 (uidV b)] [] = some (.int (if cmpS a.1 b.1 = 0 then cmpS a.2 b.2 else cmpS a.1 b.1), true, []) := by kernel_rfl
  rw [cmpU_or] at h
  exact pure_run Γo2_ok Δnil_ok h trivial
theorem cmpU_neg (a b : Uid) : decide (cmpU a b < 0) = ltU a b := by
  unfold cmpU
  cases ltU a b with
  | true => simp
  | false => cases ltU b a <;> simp
theorem c56 (a b : Uid) : PureAt Try.prog 56 [uidV a, uidV b] (.boo (ltU a b)) true := by
  refine PureAt.scalar ?_
  have h : callC Γo2 Δnil 56 [uidV a, uidV b] [] = some (.boo (decide ((if cmpS a.1 b.1 = 0 then cmpS a.2 b.2 else cmpS a.1 b.1) < 0)), true, []) := by kernel_rfl
  rw [cmpU_or, cmpU_neg] at h
  exact pure_run Γo2_ok Δnil_ok h trivial
/-- the document's own. -/
theorem c33 (a b : Uid) : PureAt Try.prog 33 [uidV a, uidV b] (.boo (ltU a b)) true := by
  refine PureAt.scalar ?_
  cases hab : (a.1 == b.1) with
  | true =>
    have h : callC Γnil Δnil 33 [uidV a, uidV b] [.br false] = some (.boo (ltS a.2 b.2), true, [(!(a.1.toList == b.1.toList)) = false]) := by kernel_rfl
    have := pure_run Γnil_ok Δnil_ok h ⟨by rw [eq_toList, hab]; rfl, trivial⟩
    have e : ltS a.1 b.1 = false := by rw [(beq_ba _ _).1 hab, ltS_irrefl]
    simpa [ltU, hab, e] using this
  | false =>
    have h : callC Γnil Δnil 33 [uidV a, uidV b] [.br true] = some (.boo (ltS a.1 b.1), true, [(!(a.1.toList == b.1.toList)) = true]) := by kernel_rfl
    have := pure_run Γnil_ok Δnil_ok h ⟨by rw [eq_toList, hab]; rfl, trivial⟩
    simpa [ltU, hab] using this
end Go.Proofs.Ai
