/- Contracts: an entity is sought among entities. -/
import Derived.Test.YtfjjeijkbhcoaaaAbOrd
import Derived.IntWalk
set_option linter.unusedVariables false
set_option linter.unusedSimpArgs false
namespace Go.Proofs.Ai
open Go

abbrev uidF (u : Uid) : List FV := [.str u.1, .str u.2]
def bs (p : Nat → Bool) : Nat → Nat → Nat → Nat
  | 0, i, _ => i
  | f + 1, i, j => if i < j then bif p ((i + j) / 2) then bs p f ((i + j) / 2 + 1) j else bs p f i ((i + j) / 2) else i
def uidOf : List FV → Uid
  | .sc (.string a) :: .sc (.string b) :: _ => (a, b)
  | _ => (⟨#[]⟩, ⟨#[]⟩)
def seek (els : List (List FV)) (u : Uid) : Nat := bs (fun k => ltU (uidOf (els.getD k [])) u) els.length 0 els.length
/-- Rows whose elements begin with a uid. -/
def UidsOK (els : List (List FV)) : Prop := (∀ x ∈ els, ∃ a b r, x = .str a :: .str b :: r) ∧ els.length ≤ 1000000

def Γf1 : PureT := fun f l => match f, l with
  | 56, [.agg [.fz (.sc (.string a)), .fz (.sc (.string b))], .agg [.fz (.sc (.string c)), .fz (.sc (.string d))]] => some (.boo (ltU (a, b) (c, d)), true, [])
  | 33, [.agg [.fz (.sc (.string a)), .fz (.sc (.string b))], .agg [.fz (.sc (.string c)), .fz (.sc (.string d))]] => some (.boo (ltU (a, b) (c, d)), true, [])
  | _, _ => none
theorem Γf1_ok : PureOK Try.prog Γf1 := by
  intro f l r fresh c h _
  unfold Γf1 at h
  split at h
  · cases h; exact c56 (_, _) (_, _)
  · cases h; exact c33 (_, _) (_, _)
  · cases h

abbrev H96 (els : List (List FV)) (u : Uid) : AHeap := [some (.var 23 [.fz (.sl 4 els)]), some (.var 25 [.str u.1, .str u.2])]
abbrev clo96 : AV := .fn (.func 122) [] [.ptr 0 0, .ptr 1 0]
noncomputable abbrev L96 : Code := post 2 (bodyOf Try.f96)
noncomputable abbrev B96 : Code := cb (cb (cl (post 2 (bodyOf Try.f96))))
abbrev S96 (els : List (List FV)) (u : Uid) (n i j : Int) : St := stOf (sp 26 [(0, .int n), (1, clo96), (5, .int i), (6, .int j)]) (H96 els u) 2

theorem half {i j : Nat} (hj : j ≤ 1000000) (hi : i ≤ j) : IntKind.i64.wrap (((i + j) / 2 : Nat) : Int) = (((i + j) / 2 : Nat) : Int) ∧ IntKind.i64.wrap ((((i + j) / 2 : Nat) : Int) + 1) = (((i + j) / 2 + 1 : Nat) : Int) ∧
    (IntKind.u64.wrap (IntKind.i64.wrap ((i : Int) + j))).fdiv (2 ^ min (Int.toNat 1) IntKind.u64.bits) = (((i + j) / 2 : Nat) : Int) := by
  refine ⟨IntWalk.i64_in _ (by omega), by rw [IntWalk.i64_in _ (by omega)]; omega, ?_⟩
  rw [IntWalk.i64_in _ (by omega), IntWalk.u64_in _ (by omega)]
  have e : (2 : Int) ^ min (Int.toNat 1) IntKind.u64.bits = 2 := by decide
  rw [e, Int.fdiv_eq_ediv_of_nonneg _ (by omega)]
  omega

theorem search_tr (els : List (List FV)) (u : Uid) (hels : UidsOK els) :
    FunTr Try.prog 96 [.int els.length, clo96] (H96 els u) 2 (fun r H => r = .int (seek els u) ∧ H = H96 els u) := by
  refine fun_of_tr Try.func96 (c := bodyOf Try.f96) (by kernel_rfl) (Nat.le_refl _) ?_
  refine tr_pre Γf1_ok Δnil_ok 2 (hs := []) (ks := [0, 1, 5, 6]) (kills := []) (N := 2) (ts := (S96 els u els.length 0 els.length).tmps) (H := H96 els u) (cs := []) (by kernel_rfl) trivial ?_
  obtain ⟨hu, hl⟩ := hels
  refine Tr.loopAt (fun (k : Nat × Nat) s => s = S96 els u els.length k.1 k.2 ∧ k.1 ≤ k.2 ∧ k.2 ≤ els.length ∧ ∃ f, k.2 - k.1 ≤ f ∧ bs (fun k => ltU (uidOf (els.getD k [])) u) f k.1 k.2 = seek els u) (fun k => k.2 - k.1)
    (fun s => ∃ j : Nat, s = S96 els u els.length (seek els u) j) (id := 0) (B := B96) (C := cr L96) (by kernel_rfl) (i := (0, els.length)) ⟨rfl, Nat.zero_le _, Nat.le_refl _, els.length, by omega, rfl⟩ ?_ ?_
  · rintro ⟨i, j⟩ s ⟨rfl, hij, hj, f, hf, hres⟩
    simp only at hij hj hf hres
    by_cases hlt : i < j
    · obtain ⟨e1, e2, e3⟩ := half (i := i) (j := j) (by omega) hij
      have hh : (i + j) / 2 < els.length := by omega
      obtain ⟨x1, x2, r, hx⟩ := hu _ (List.getElem_mem hh)
      cases f with
      | zero => omega
      | succ f =>
        simp only [bs, hlt, if_true] at hres
        have hget : els.getD ((i + j) / 2) [] = .str x1 :: .str x2 :: r := by rw [List.getD_eq_getElem?_getD, List.getElem?_eq_getElem hh, hx]; rfl
        rw [hget] at hres
        have hc2 : 0 ≤ IntKind.i64.wrap (((i + j) / 2 : Nat) : Int) ∧ els[(IntKind.i64.wrap (((i + j) / 2 : Nat) : Int)).toNat]? = some (.str x1 :: .str x2 :: r) := by
          rw [e1]
          exact ⟨by omega, by rw [Int.toNat_natCast, List.getElem?_eq_getElem hh, hx]⟩
        cases hp : ltU (x1, x2) u with
        | true =>
          have hrun : rT Γf1 Δnil B96 (S96 els u els.length i j) [.br true, .is .shr (.int .u64 (((i + j) / 2 : Nat) : Int)), .el (.str x1 :: .str x2 :: r), .br true] [0, 1, 5, 6] [] 2 =
              some (.normal, (S96 els u els.length (IntKind.i64.wrap (IntKind.i64.wrap (((i + j) / 2 : Nat) : Int) + 1)) j).tmps, H96 els u,
                [(!!ltU (x1, x2) (u.1, u.2)) = true, 0 ≤ IntKind.i64.wrap (((i + j) / 2 : Nat) : Int) ∧ els[(IntKind.i64.wrap (((i + j) / 2 : Nat) : Int)).toNat]? = some (.str x1 :: .str x2 :: r),
                  Value.int .u64 ((IntKind.u64.wrap (IntKind.i64.wrap ((i : Int) + j))).fdiv (2 ^ min (Int.toNat 1) IntKind.u64.bits)) = Value.int .u64 (((i + j) / 2 : Nat) : Int), decide ((i : Int) < j) = true]) := by kernel_rfl
          refine tr_run Γf1_ok Δnil_ok hrun ⟨by simpa using hp, hc2, by rw [e3], by simp [hlt], trivial⟩ ?_
          have hp' : ltU (uidOf (.str x1 :: .str x2 :: r)) u = true := hp
          rw [hp', cond_true] at hres
          rw [e1, e2]
          exact ⟨((i + j) / 2 + 1, j), ⟨rfl, by simp only; omega, hj, f, by simp only; omega, hres⟩, by simp only; omega⟩
        | false =>
          have hrun : rT Γf1 Δnil B96 (S96 els u els.length i j) [.br true, .is .shr (.int .u64 (((i + j) / 2 : Nat) : Int)), .el (.str x1 :: .str x2 :: r), .br false] [0, 1, 5, 6] [] 2 =
              some (.normal, (S96 els u els.length i (IntKind.i64.wrap (((i + j) / 2 : Nat) : Int))).tmps, H96 els u,
                [(!!ltU (x1, x2) (u.1, u.2)) = false, 0 ≤ IntKind.i64.wrap (((i + j) / 2 : Nat) : Int) ∧ els[(IntKind.i64.wrap (((i + j) / 2 : Nat) : Int)).toNat]? = some (.str x1 :: .str x2 :: r),
                  Value.int .u64 ((IntKind.u64.wrap (IntKind.i64.wrap ((i : Int) + j))).fdiv (2 ^ min (Int.toNat 1) IntKind.u64.bits)) = Value.int .u64 (((i + j) / 2 : Nat) : Int), decide ((i : Int) < j) = true]) := by kernel_rfl
          refine tr_run Γf1_ok Δnil_ok hrun ⟨by simpa using hp, hc2, by rw [e3], by simp [hlt], trivial⟩ ?_
          have hp' : ltU (uidOf (.str x1 :: .str x2 :: r)) u = false := hp
          rw [hp', cond_false] at hres
          rw [e1]
          exact ⟨(i, (i + j) / 2), ⟨rfl, by simp only; omega, by simp only; omega, f, by simp only; omega, hres⟩, by simp only; omega⟩
    · have hrun : rT Γf1 Δnil B96 (S96 els u els.length i j) [.br false] [0, 1, 5, 6] [] 2 = some (.exit 0, (S96 els u els.length i j).tmps, H96 els u, [decide ((i : Int) < j) = false]) := by kernel_rfl
      refine tr_run Γf1_ok Δnil_ok hrun ⟨by simp; omega, trivial⟩ ⟨rfl, j, ?_⟩
      have : seek els u = i := by
        rw [← hres]
        cases f with
        | zero => rfl
        | succ f => simp [bs, hlt]
      rw [this]
      rfl
  · rintro t ⟨j, rfl⟩ _
    have hrun : rT Γf1 Δnil (cr L96) (S96 els u els.length (seek els u) j) [] [4] [] 2 = some (.ret, (stOf (sp 26 [(4, .int (seek els u))]) (H96 els u) 2).tmps, H96 els u, []) := by kernel_rfl
    exact tr_run Γf1_ok Δnil_ok hrun trivial ⟨_, by kernel_rfl, rfl, rfl⟩
end Go.Proofs.Ai
