/- Contracts: where an entity stands; an entity is found. -/
import Derived.Test.YtfjjeijkbhcoaaaAbEnt
set_option linter.unusedVariables false
set_option linter.unusedSimpArgs false
namespace Go.Proofs.Ai
open Go

instance : LawfulBEq ByteArray where
  eq_of_beq {a b} h := (beq_ba a b).1 h
  rfl {a} := (beq_ba a a).2 rfl

def foundAt (els : List (List FV)) (u : Uid) : Bool := match els[seek els u]? with
  | some x => (uidOf x).1 == u.1 && (uidOf x).2 == u.2
  | none => false

def Δat : HeapT := fun f l H => match f, l, H with
  | 96, [.fz (.sc (.int .i64 n)), .fn (.func 122) [] [.ptr 0 0, .ptr 1 0]], [some (.var 23 [.fz (.sl 4 els)]), some (.var 25 [.fz (.sc (.string a)), .fz (.sc (.string b))])] => some (.int (seek els (a, b)), H, [UidsOK els ∧ n = els.length])
  | _, _, _ => none
theorem Δat_ok : HeapOK Try.prog Δat := by
  intro f l H r H' c h hc
  unfold Δat at h
  split at h
  · rename_i n els a b
    cases h
    obtain ⟨⟨h1, rfl⟩, _⟩ := hc
    refine heapAt_of_fun ((search_tr els (a, b) h1).mono ?_)
    rintro r H ⟨rfl, rfl⟩
    rfl
  · cases h

theorem c82 (els : List (List FV)) (u : Uid) (h : UidsOK els) : PureAt Try.prog 82 [.fz (.sl 4 els), uidV u] (.tup [.int (seek els u), .boo (foundAt els u)]) true := by
  refine PureAt.scalarA rfl ?_
  cases hx : els[seek els u]? with
  | none =>
    have hlt : els.length ≤ seek els u := List.getElem?_eq_none_iff.1 hx
    have hrun : callC Γf1 Δat 82 [.fz (.sl 4 els), uidV u] [.is .lss (.bool false)] = some (.tup [.int (seek els (u.1, u.2)), .boo false], true,
      [Value.bool (decide ((seek els (u.1, u.2) : Int) < (els.length : Int))) = .bool false, UidsOK els ∧ (els.length : Int) = (els.length : Int)]) := by kernel_rfl
    have e : decide ((seek els (u.1, u.2) : Int) < (els.length : Int)) = false := by rw [decide_eq_false_iff_not]; show ¬ (seek els u : Int) < (els.length : Int); omega
    have := pure_run Γf1_ok Δat_ok hrun ⟨by rw [e], ⟨h, rfl⟩, trivial⟩
    simpa [foundAt, hx] using this
  | some x =>
    have hlt : seek els u < els.length := (List.getElem?_eq_some_iff.1 hx).1
    obtain ⟨a, b, r, rfl⟩ := h.1 x (List.mem_of_getElem? hx)
    have hrun : callC Γf1 Δat 82 [.fz (.sl 4 els), uidV u] [.is .lss (.bool true), .el (.str a :: .str b :: r)] = some (.tup [.int (seek els (u.1, u.2)), .boo (a == u.1 && b == u.2)], true,
      [0 ≤ (seek els (u.1, u.2) : Int) ∧ els[(seek els (u.1, u.2) : Int).toNat]? = some (.str a :: .str b :: r), Value.bool (decide ((seek els (u.1, u.2) : Int) < (els.length : Int))) = .bool true, UidsOK els ∧ (els.length : Int) = (els.length : Int)]) := by kernel_rfl
    have e : decide ((seek els (u.1, u.2) : Int) < (els.length : Int)) = true := by rw [decide_eq_true_iff]; show (seek els u : Int) < (els.length : Int); omega
    have := pure_run Γf1_ok Δat_ok hrun ⟨⟨by omega, by rw [Int.toNat_natCast]; exact hx⟩, by rw [e], ⟨h, rfl⟩, trivial⟩
    simpa [foundAt, hx, uidOf] using this

def EntsOK (els : List (List FV)) : Prop := ∃ l : List EntD, els = l.map entF ∧ (∀ e ∈ l, entOK e) ∧ l.length ≤ 1000000
theorem EntsOK.uids {els : List (List FV)} (h : EntsOK els) : UidsOK els := by
  obtain ⟨l, rfl, _, hl⟩ := h
  refine ⟨fun x hx => ?_, by simpa using hl⟩
  obtain ⟨e, _, rfl⟩ := List.mem_map.1 hx
  exact ⟨_, _, _, rfl⟩

def zeroE : EntD := ⟨(⟨#[]⟩, ⟨#[]⟩), [], []⟩
def strAt (x : List FV) (k : Nat) : ByteArray := match x[k]? with
  | some (.sc (.string s)) => s
  | _ => ⟨#[]⟩
def slAt (x : List FV) (k : Nat) : List (List FV) := match x[k]? with
  | some (.sl _ ys) => ys
  | _ => []
def entAt (els : List (List FV)) (u : Uid) : List FV := if foundAt els u then els.getD (seek els u) [] else entF zeroE
abbrev entRes (els : List (List FV)) (u : Uid) : AV := .tup [.agg [.str (strAt (entAt els u) 0), .str (strAt (entAt els u) 1), .fz (.sl 2 (slAt (entAt els u) 2)), .fz (.sl 8 (slAt (entAt els u) 3))], .boo (foundAt els u)]

def Γat : PureT := fun f xs => match f, xs with
  | 82, [.fz (.sl 4 els), .agg [.fz (.sc (.string a)), .fz (.sc (.string b))]] => some (.tup [.int (seek els (a, b)), .boo (foundAt els (a, b))], true, [UidsOK els])
  | 83, [.agg cells] => some (.agg cells, false, [∃ e, entOK e ∧ .agg cells = entV e])
  | _, _ => none
theorem Γat_ok : PureOK Try.prog Γat := by
  intro f xs r fresh c hg hc
  unfold Γat at hg
  split at hg
  · cases hg; exact c82 _ (_, _) hc.1
  · cases hg
    obtain ⟨e, he, q⟩ := hc.1
    rw [q]
    exact c83 e he
  · cases hg

/-- A slice of nothing is a row of nothing. -/
theorem rep_nilSl {μ : Nat → Value} {H : AHeap} {w : World} {ok : Nat → Prop} {A : Option Addr} {c sz : Nat} {v : Value} (h : Rep μ H w ok (.fz (.sc (.slice A 0 c))) v) : Rep μ H w ok (.fz (.sl sz [])) v := by
  obtain ⟨rfl, _⟩ := rep_sc_inv h
  exact .fz .nil
theorem Rep.agg2 {μ : Nat → Value} {H : AHeap} {w : World} {ok : Nat → Prop} {l l' : List AV} {v : Value} (h : Rep μ H w ok (.agg l) v) (hl : l'.length = l.length) (hx : ∀ (i : Nat) (x y : AV), l[i]? = some x → l'[i]? = some y → ∀ u, Rep μ H w ok x u → Rep μ H w ok y u) : Rep μ H w ok (.agg l') v := by
  obtain ⟨vs, rfl, h1, h2, h3⟩ := rep_agg_inv h
  refine .agg (by omega) (fun i y hy => ?_) h3
  have hi : i < l.length := by have := (List.getElem?_eq_some_iff.1 hy).1; omega
  exact hx i _ y (List.getElem?_eq_getElem hi) hy _ (h2 i _ (List.getElem?_eq_getElem hi))
theorem rep_tup_inv {μ : Nat → Value} {H : AHeap} {w : World} {ok : Nat → Prop} {l : List AV} {v : Value} (h : Rep μ H w ok (.tup l) v) : ∃ vs : Array Value, v = .tuple vs ∧ vs.size = l.length ∧ ∀ (i : Nat) (x : AV), l[i]? = some x → Rep μ H w ok x (vs.getD i undef) := by
  cases h with
  | tup hl h => exact ⟨_, rfl, hl, h⟩
  | dead hx => simp [refOf] at hx
theorem Rep.tup2 {μ : Nat → Value} {H : AHeap} {w : World} {ok : Nat → Prop} {l l' : List AV} {v : Value} (h : Rep μ H w ok (.tup l) v) (hl : l'.length = l.length) (hx : ∀ (i : Nat) (x y : AV), l[i]? = some x → l'[i]? = some y → ∀ u, Rep μ H w ok x u → Rep μ H w ok y u) : Rep μ H w ok (.tup l') v := by
  obtain ⟨vs, rfl, h1, h2⟩ := rep_tup_inv h
  refine .tup (by omega) (fun i y hy => ?_)
  have hi : i < l.length := by have := (List.getElem?_eq_some_iff.1 hy).1; omega
  exact hx i _ y (List.getElem?_eq_getElem hi) hy _ (h2 i _ (List.getElem?_eq_getElem hi))

theorem c31 (els : List (List FV)) (u : Uid) (h : EntsOK els) : PureAt Try.prog 31 [.fz (.sl 4 els), uidV u] (entRes els u) false := by
  have hu := h.uids
  cases hf : foundAt els u with
  | false =>
    have hrun : callC Γat Δnil 31 [.fz (.sl 4 els), uidV u] [.br true] = some (.tup [.agg zeroEnt, .boo false], true, [(!foundAt els (u.1, u.2)) = true, UidsOK els]) := by kernel_rfl
    refine (pure_run Γat_ok Δnil_ok hrun ⟨by simpa using hf, hu, trivial⟩).res (fun ok w v hv => ?_)
    rw [entRes, entAt, hf]
    refine hv.tup2 rfl (fun i x y hx hy u hu => ?_)
    match i with
    | 0 =>
      simp at hx hy
      subst hx
      subst hy
      refine hu.agg2 rfl (fun i x y hx hy u hu => ?_)
      match i with
      | 0 => simp at hx hy; subst hx; subst hy; exact hu
      | 1 => simp at hx hy; subst hx; subst hy; exact hu
      | 2 => simp at hx hy; subst hx; subst hy; exact rep_nilSl hu
      | 3 => simp at hx hy; subst hx; subst hy; exact rep_nilSl hu
      | i + 4 => simp at hx
    | 1 => simp at hx hy; subst hx; subst hy; exact hu
    | i + 2 => simp at hx
  | true =>
    obtain ⟨l, rfl, hl, _⟩ := h
    have hx : ∃ e, l[seek (l.map entF) u]? = some e := by
      unfold foundAt at hf
      split at hf
      · rename_i x hx
        rw [List.getElem?_map] at hx
        obtain ⟨e, he, _⟩ := Option.map_eq_some_iff.1 hx
        exact ⟨e, he⟩
      · cases hf
    obtain ⟨e, he⟩ := hx
    have hme : (l.map entF)[seek (l.map entF) u]? = some (entF e) := by rw [List.getElem?_map, he]; rfl
    have hea : entAt (l.map entF) u = entF e := by
      unfold entAt
      rw [if_pos hf, List.getD_eq_getElem?_getD, hme]
      rfl
    rw [entRes, hea, hf]
    generalize hels : l.map entF = els at *
    obtain ⟨eu, eps, eats⟩ := e
    have hrun : callC Γat Δnil 31 [.fz (.sl 4 els), uidV u] [.br false, .el (entF ⟨eu, eps, eats⟩)] = some (.tup [entV ⟨eu, eps, eats⟩, .boo true], true,
      [∃ e, entOK e ∧ entV ⟨eu, eps, eats⟩ = entV e, 0 ≤ (seek els (u.1, u.2) : Int) ∧ els[(seek els (u.1, u.2) : Int).toNat]? = some (entF ⟨eu, eps, eats⟩), (!foundAt els (u.1, u.2)) = false, UidsOK els]) := by kernel_rfl
    exact pure_run Γat_ok Δnil_ok hrun ⟨⟨_, hl _ (List.mem_of_getElem? he), rfl⟩, ⟨by omega, by simpa using hme⟩, by simpa using hf, hu, trivial⟩
end Go.Proofs.Ai
