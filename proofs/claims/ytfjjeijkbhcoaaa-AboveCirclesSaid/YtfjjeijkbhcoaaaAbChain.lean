/- The walk of a row of entities, each the parent of the one ahead, and its plain law. -/
import Derived.Test.YtfjjeijkbhcoaaaAbCode
import Derived.Test.YtfjjeijkbhcoaaaAbWithin
set_option linter.unusedVariables false
set_option linter.unusedSimpArgs false
namespace Go.Proofs.Ai
open Go

/-! ### its plain law -/
def sb (z : Int) : ByteArray := ⟨(List.map (fun n => UInt8.ofNat n.toNat) [IntKind.u8.wrap (IntKind.i64.wrap z)]).toArray⟩
abbrev tT : ByteArray := ⟨#[84]⟩
abbrev tOther : ByteArray := ⟨#[111, 116, 104, 101, 114]⟩
def cc (k : Nat) : Uid := if k = 99 then (tT, tOther) else (tT, sb (97 + (k : Int)))
def dl : List Nat := [0, 1, 2, 3, 4, 5, 6, 7, 8, 9, 10, 11, 12, 13, 14, 99]
def dD (k : Nat) : Prop := k ∈ dl
def chN (n : Nat) (ring : Bool) : NE := (List.range n).map fun i => (i, if i + 1 < n then [i + 1] else if ring then [0] else [])

theorem cc_inj : ∀ i ∈ dl, ∀ j ∈ dl, (cc i == cc j) = true → i = j := by decide +kernel
theorem chN_ids0 : ∀ n, n < 15 → ∀ r : Bool, (n < 2 || (chN n r).all fun x => dl.contains x.1 && x.2.all dl.contains) = true := by decide +kernel
theorem chN_ids (n : Nat) (hn : n < 15) (h2 : 2 ≤ n) (r : Bool) : ∀ x ∈ chN n r, x.1 ∈ dl ∧ ∀ y ∈ x.2, y ∈ dl := by
  have := chN_ids0 n hn r
  simp only [Bool.or_eq_true, decide_eq_true_eq, List.all_eq_true, Bool.and_eq_true, List.contains_eq_mem] at this
  rcases this with h | h
  · omega
  · exact h
theorem chN_srt : ∀ n, n < 15 → ∀ r : Bool, (chN n r).Pairwise fun x y => ltU (cc x.1) (cc y.1) = true := by decide +kernel
theorem chN_few : ∀ n, n < 15 → ∀ r : Bool, (chN n r).length ≤ 1000 ∧ ∀ x ∈ chN n r, x.2.length ≤ 100 := by decide +kernel
theorem chN_ok {n : Nat} (h2 : 2 ≤ n) (hn : n < 15) (r : Bool) : CodeOK cc dD (chN n r) where
  inj i j hi hj h := cc_inj i hi j hj (by rw [h]; simp)
  ids := chN_ids n hn h2 r
  srt := chN_srt n hn r
  few := chN_few n hn r
theorem chN_in : ∀ n, n < 15 → ∀ r : Bool, ∀ k, k < n → ∀ i, i < n → (climbL (chN n r) [k]).contains i = (r || decide (k ≤ i)) := by decide +kernel
theorem chN_above : ∀ n, n < 15 → ∀ r : Bool, ∀ k, k < n → (climbL (chN n r) (psN (chN n r) k)).length = if r then n else n - 1 - k := by decide +kernel
theorem chN_below : ∀ n, n < 15 → ∀ r : Bool, ∀ k, k < n → (belowL (chN n r) k).length = if r then n - 1 else k := by decide +kernel
theorem chN_circ1 : ∀ n, n < 15 → ∀ k, k < n → (climbL (bareN (chN n false) (n - 1)) [k]).contains (n - 1) = true := by decide +kernel
theorem chN_circ2 : ∀ n, n < 15 → (climbL (bareN (chN n false) 0) [99]).contains 0 = false := by decide +kernel
theorem chN_get : ∀ n, n < 15 → ∀ r : Bool, ∀ k, k < n → (chN n r)[k]? = some (k, if k + 1 < n then [k + 1] else if r then [0] else []) := by decide +kernel

/-! ### the row that the code makes -/
abbrev nilF : FV := .sc (.slice none 0 0)
def rawE (n : Nat) (r : Bool) (i : Nat) : List FV := [.str tT, .str (sb (97 + (i : Int))), if i + 1 < n then .sl 2 [[.str tT, .str (sb (98 + (i : Int)))]] else if r then .sl 2 [[.str tT, .str ⟨#[97]⟩]] else nilF, nilF]
def rawN (n : Nat) (r : Bool) (i : Nat) : List (List FV) := (List.range i).map (rawE n r)
theorem rawN_succ (n : Nat) (r : Bool) (i : Nat) : rawN n r (i + 1) = rawN n r i ++ [rawE n r i] := by simp [rawN, List.range_succ]
theorem rawN_length (n : Nat) (r : Bool) (i : Nat) : (rawN n r i).length = i := by simp [rawN]
theorem rawN_get {n : Nat} {r : Bool} {i m : Nat} (h : i < m) : (rawN n r m)[i]? = some (rawE n r i) := by simp [rawN, h]
theorem cc_lt {k : Nat} (h : k < 15) : cc k = (tT, sb (97 + (k : Int))) := by unfold cc; rw [if_neg (by omega)]
theorem raw_nr {n : Nat} (hn : n < 15) (r : Bool) : nrL (rawN n r n) = lE cc (chN n r) := by
  unfold rawN lE chN
  rw [nrL, List.map_map, List.map_map]
  apply List.map_congr_left
  intro i hi
  have hi : i < n := by simpa using hi
  show nrE (rawE n r i) = entF ⟨cc i, (if i + 1 < n then [i + 1] else if r then [0] else []).map cc, []⟩
  have hc : cc i = (tT, sb (97 + (i : Int))) := cc_lt (by omega)
  have h0 : cc 0 = (tT, ⟨#[97]⟩) := by kernel_rfl
  rw [hc]
  unfold rawE
  by_cases h1 : i + 1 < n
  · have hc1 : cc (i + 1) = (tT, sb (98 + (i : Int))) := by rw [cc_lt (by omega)]; congr 2; omega
    rw [if_pos h1, if_pos h1]
    simp only [List.map_cons, List.map_nil, hc1]
    rfl
  · rw [if_neg h1, if_neg h1]
    cases r with
    | true => simp only [if_true, List.map_cons, List.map_nil, h0]; rfl
    | false => simp only [Bool.false_eq_true, if_false, List.map_nil]; rfl

/-! ### contracts by other names -/
def Γt : PureT := fun f xs => match f, xs with
  | 28, [.fz (.sl 4 els), .agg [.fz (.sc (.string a)), .fz (.sc (.string b))], .agg [.fz (.sc (.string c)), .fz (.sc (.string d))]] => some (.boo (inB (nrL els) (a, b) (c, d)), true, [EntsOK (nrL els)])
  | 50, [.fz (.sl 4 els), .agg [.fz (.sc (.string a)), .fz (.sc (.string b))]] => some (.fz (.sl 2 ((aboveS (nrL els) (a, b)).map uidF)), false, [EntsOK (nrL els), FewPs (nrL els)])
  | 27, [.fz (.sl 4 els), .agg [.fz (.sc (.string a)), .fz (.sc (.string b))]] => some (.fz (.sl 2 ((belowS (nrL els) (a, b)).map uidF)), false, [EntsOK (nrL els)])
  | 51, [.fz (.sl 4 els), .agg [.fz (.sc (.string a)), .fz (.sc (.string b))], .fz (.sl 2 [[.sc (.string c), .sc (.string d)]])] => some (.boo (!(d.size == 5)), true, [EntsOK (nrL els), circS (nrL els) (a, b) [(c, d)] = !(d.size == 5)])
  | 24, [] => some (.boo true, true, [])
  | 26, [.fz (.sc (.int .i64 a)), .fz (.sc (.int .i64 n))] => some (.int (a % n), true, [0 < n ∧ n ≤ 1000000000000])
  | _, _ => none

/-! ### the chapter's example -/
abbrev u3 (k : UInt8) : Uid := (tT, ⟨#[k]⟩)
def knE : List (List FV) := lE cc [(0, [1]), (1, [2])]
theorem kn_ok : CodeOK cc dD [(0, [1]), (1, [2])] where
  inj i j hi hj h := cc_inj i hi j hj (by rw [h]; simp)
  ids := by unfold dD; decide +kernel
  srt := by decide +kernel
  few := by decide +kernel
def Γk : PureT := fun f xs => match f, xs with
  | 28, [.fz (.sl 4 els), .agg [.fz (.sc (.string a)), .fz (.sc (.string b))], .agg [.fz (.sc (.string c)), .fz (.sc (.string d))]] => some (.boo (d.data.toList == [99]), true, [EntsOK (nrL els), inB (nrL els) (a, b) (c, d) = (d.data.toList == [99])])
  | 50, [.fz (.sl 4 els), .agg [.fz (.sc (.string a)), .fz (.sc (.string b))]] => some (.fz (.sl 2 [uidF (u3 98), uidF (u3 99)]), false, [EntsOK (nrL els), FewPs (nrL els), aboveS (nrL els) (a, b) = [u3 98, u3 99]])
  | _, _ => none
theorem wk1 {f : FuncId} {els : List (List FV)} {r : AV} {fresh : Bool} {rest : List AV} (hr : ∀ x ∈ rest, AWk x x) (h : PureAt Try.prog f (.fz (.sl 4 (nrL els)) :: rest) r fresh) : PureAt Try.prog f (.fz (.sl 4 els) :: rest) r fresh :=
  h.wk rfl (fun i x y hx hy => by
    cases i with
    | zero => simp at hx hy; subst hx; subst hy; exact nrL_fw els
    | succ i =>
      simp only [List.getElem?_cons_succ] at hx hy
      rw [hx] at hy
      cases hy
      exact hr x (List.mem_of_getElem? hx))
theorem awk_uid (u : Uid) : AWk (uidV u) (uidV u) := ⟨rfl, fun i x y hx hy => by
  match i with
  | 0 => simp at hx hy; subst hx; subst hy; exact ⟨_, _, rfl, rfl, .refl _⟩
  | 1 => simp at hx hy; subst hx; subst hy; exact ⟨_, _, rfl, rfl, .refl _⟩
  | i + 2 => simp at hx⟩
theorem Γk_ok : PureOK Try.prog Γk := by
  intro f xs r fresh c hg hc
  unfold Γk at hg
  split at hg
  · cases hg
    rename_i els a b c d
    rw [← hc.2.1]
    exact wk1 (fun x hx => by simp at hx; rcases hx with rfl | rfl; exact awk_uid (a, b); exact awk_uid (c, d)) (c28 _ (a, b) (c, d) hc.1)
  · cases hg
    rename_i els a b
    have := wk1 (els := els) (fun x hx => by simp at hx; subst hx; exact awk_uid (a, b)) (c50 _ (a, b) hc.1 hc.2.1)
    rw [hc.2.2.1] at this
    exact this
  · cases hg
end Go.Proofs.Ai
