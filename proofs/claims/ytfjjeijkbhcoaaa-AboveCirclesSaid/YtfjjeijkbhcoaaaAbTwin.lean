/- Contracts: a value apart is the same value. -/
import Derived.Test.YtfjjeijkbhcoaaaAbFind
set_option linter.unusedVariables false
set_option linter.unusedSimpArgs false
namespace Go.Proofs.Ai
open Go

inductive Val where
  | mk (k : Int) (b : Bool) (n : Int) (s : ByteArray) (u : Uid) (l : List Val)
mutual
def valF : Val → List FV
  | .mk k b n s u l => [.int k, .boo b, .int n, .str s, .str u.1, .str u.2, .sl 7 (valsF l)]
def valsF : List Val → List (List FV)
  | [] => []
  | v :: r => valF v :: valsF r
end
mutual
def valOK : Val → Prop
  | .mk _ _ _ _ _ l => l.length ≤ 1000000 ∧ valsOK l
def valsOK : List Val → Prop
  | [] => True
  | v :: r => valOK v ∧ valsOK r
end
theorem valsF_map : ∀ l : List Val, valsF l = l.map valF
  | [] => rfl
  | v :: r => by simp [valsF, valsF_map r]
theorem valsOK_iff : ∀ l : List Val, valsOK l ↔ ∀ v ∈ l, valOK v
  | [] => by simp [valsOK]
  | v :: r => by simp [valsOK, valsOK_iff r]
abbrev valV (v : Val) : AV := .agg ((valF v).map AV.fz)

theorem set_self {α : Type} {l : List α} {i : Nat} {x : α} (h : l[i]? = some x) : l.set i x = l := by
  apply List.ext_getElem?
  intro n
  rw [List.getElem?_set]
  split
  · rename_i hn
    subst hn
    rw [h]
    split
    · rfl
    · rename_i hlt
      rw [List.getElem?_eq_none (by omega)] at h
      cases h
  · rfl

def Γtw (l : List Val) : PureT := fun f xs => match f, xs with
  | 118, [.agg cells] => some (.agg cells, false, [∃ v ∈ l, .agg cells = valV v])
  | _, _ => none
theorem Γtw_ok {l : List Val} (h : ∀ v ∈ l, PureAt Try.prog 118 [valV v] (valV v) false) : PureOK Try.prog (Γtw l) := by
  intro f xs r fresh c hg hc
  unfold Γtw at hg
  split at hg
  · cases hg
    obtain ⟨v, hv, e⟩ := hc.1
    rw [e]
    exact h v hv
  · cases hg

noncomputable abbrev L118 : Code := post 4 (bodyOf Try.f118)
noncomputable abbrev B118 : Code := cb (cb (cr (cl L118)))
abbrev zeroVal : List AV := [.int 0, .boo false, .int 0, .str ⟨#[]⟩, .str ⟨#[]⟩, .str ⟨#[]⟩, .fz (.sc (.slice none 0 0))]
abbrev H118 (k : Int) (b : Bool) (n : Int) (s : ByteArray) (u : Uid) (xs els : List (List FV)) : AHeap :=
  [some (.var 33 [.int k, .boo b, .int n, .str s, .str u.1, .str u.2, .fz (.sl 7 xs)]), some (.var 33 zeroVal), some (.row 33 7 els)]
abbrev S118 (k : Int) (b : Bool) (n : Int) (s : ByteArray) (u : Uid) (xs : List (List FV)) (i : Int) : St :=
  stOf (sp 35 [(1, .ptr 0 0), (2, .ptr 1 0), (3, .own 2), (19, .own 2), (20, .int xs.length), (21, .int i)]) (H118 k b n s u xs xs) 0

theorem twinValue_step (k : Int) (b : Bool) (n : Int) (s : ByteArray) (u : Uid) (l : List Val) (hl : l.length ≤ 1000000) (ih : ∀ v ∈ l, PureAt Try.prog 118 [valV v] (valV v) false) :
    PureAt Try.prog 118 [valV (.mk k b n s u l)] (valV (.mk k b n s u l)) false := by
  by_cases h0 : l = []
  · subst h0
    have h : callC Γnil Δnil 118 [valV (.mk k b n s u [])] [.br true] = some (valV (.mk k b n s u []), true, [(((0 : Nat) : Int) == 0) = true]) := by kernel_rfl
    exact pure_run Γnil_ok Δnil_ok h ⟨by decide, trivial⟩
  · have hΓ := Γtw_ok ih
    have hlen : (valsF l).length = l.length := by rw [valsF_map]; simp
    generalize hxs : valsF l = xs at hlen
    have hpos : 0 < l.length := List.length_pos_iff.2 h0
    have e0 : valV (.mk k b n s u l) = .agg [.int k, .boo b, .int n, .str s, .str u.1, .str u.2, .fz (.sl 7 xs)] := by rw [← hxs]; rfl
    rw [e0]
    refine pureAt_of_fun (fun_of_tr Try.func118 (c := bodyOf Try.f118) (by kernel_rfl) (Nat.le_refl _) ?_)
    refine tr_pre hΓ Δnil_ok 4 (hs := [.br false, .ok, .ok]) (ks := [1, 2, 3]) (kills := []) (N := 3) (ts := sp 35 [(1, .ptr 0 0), (2, .ptr 1 0), (3, .own 2)]) (H := H118 k b n s u xs xs)
      (cs := [xs.length = (List.replicate (xs.length : Int).toNat [FV.int 0, .boo false, .int 0, .str ⟨#[]⟩, .str ⟨#[]⟩, .str ⟨#[]⟩, .sc (.slice none 0 0)]).length,
        (xs.length : Int) = (xs.length : Int) ∧ 0 ≤ (xs.length : Int) ∧ szB 33 * (xs.length : Int).toNat ≤ 140737488355328 ∧ (xs.length : Int).toNat ≤ 140737488355328, ((xs.length : Int) == 0) = false]) (by kernel_rfl) ?_ ?_
    · refine ⟨by simp, ⟨rfl, by omega, ?_, by omega⟩, ?_, trivial⟩
      · have : szB 33 ≤ 1000 := by decide +kernel
        have : szB 33 * (xs.length : Int).toNat ≤ 1000 * 1000000 := Nat.mul_le_mul this (by omega)
        omega
      · simp; intro h; rw [h] at hlen; simp at hlen; omega
    refine Tr.rangeAt (fun (i : Nat) t => t = S118 k b n s u xs i ∧ i ≤ l.length) (fun i => l.length - i) (fun t => t = S118 k b n s u xs l.length) (id := 0) (A := cl (cl L118)) (B := B118) (C := cr L118) (by kernel_rfl)
      (tr_run hΓ Δnil_ok (hs := []) (ks := [1, 2, 3, 19, 20, 21]) (kills := []) (N := 3) (e := .normal) (ts := (S118 k b n s u xs 0).tmps) (H := H118 k b n s u xs xs) (cs := []) (by kernel_rfl) trivial ⟨rfl, 0, rfl, Nat.zero_le _⟩) ?_ ?_
    · rintro i t ⟨rfl, hi⟩
      by_cases hlt : i < l.length
      · obtain ⟨v, hv⟩ : ∃ v, l[i]? = some v := ⟨l[i], List.getElem?_eq_getElem hlt⟩
        have hx : xs[i]? = some (valF v) := by rw [← hxs, valsF_map, List.getElem?_map, hv]; rfl
        cases v with | mk k' b' n' s' u' l' =>
        have hrun : rT (Γtw l) Δnil B118 (S118 k b n s u xs i) [.br true, .ok, .el (valF (.mk k' b' n' s' u' l')), .ok, .el (valF (.mk k' b' n' s' u' l'))] [1, 2, 3, 19, 20, 21] [] 3 =
            some (.normal, (stOf (sp 35 [(1, .ptr 0 0), (2, .ptr 1 0), (3, .own 2), (19, .own 2), (20, .int xs.length), (21, .int (IntKind.i64.wrap ((i : Int) + 1)))]) [] 0).tmps,
              H118 k b n s u xs (xs.set (i : Int).toNat (valF (.mk k' b' n' s' u' l'))),
              [xs[(i : Int).toNat]? = some (valF (.mk k' b' n' s' u' l')), 0 ≤ (i : Int) ∧ (i : Int) < (xs.length : Int), ∃ v ∈ l, valV (.mk k' b' n' s' u' l') = valV v,
                xs[(i : Int).toNat]? = some (valF (.mk k' b' n' s' u' l')), 0 ≤ (i : Int) ∧ (i : Int) < (xs.length : Int), decide ((i : Int) < (xs.length : Int)) = true]) := by kernel_rfl
        refine tr_run hΓ Δnil_ok hrun ⟨by simpa using hx, ⟨by omega, by omega⟩, ⟨_, List.mem_of_getElem? hv, rfl⟩, by simpa using hx, ⟨by omega, by omega⟩, by simp; omega, trivial⟩ ?_
        rw [Int.toNat_natCast, set_self hx, IntWalk.i64_in _ (by omega)]
        exact ⟨i + 1, ⟨rfl, by omega⟩, by show l.length - (i + 1) < l.length - i; omega⟩
      · have hil : i = l.length := by omega
        subst hil
        have hrun : rT (Γtw l) Δnil B118 (S118 k b n s u xs l.length) [.br false] [1, 2, 3, 19, 20, 21] [] 3 =
            some (.exit 0, (S118 k b n s u xs l.length).tmps, H118 k b n s u xs xs, [decide ((l.length : Int) < (xs.length : Int)) = false]) := by kernel_rfl
        exact tr_run hΓ Δnil_ok hrun ⟨by simp; omega, trivial⟩ ⟨rfl, rfl⟩
    · rintro t rfl _
      have hrun : rT (Γtw l) Δnil (cr L118) (S118 k b n s u xs l.length) [] [2] [] 3 = some (.ret, (stOf (sp 35 [(2, .ptr 1 0)]) [] 0).tmps,
          [some (.var 33 [.int k, .boo b, .int n, .str s, .str u.1, .str u.2, .own 2]), some (.var 33 [.int k, .boo b, .int n, .str s, .str u.1, .str u.2, .own 2]), some (.row 33 7 xs)], []) := by kernel_rfl
      exact tr_run hΓ Δnil_ok hrun trivial ⟨.agg [.int k, .boo b, .int n, .str s, .str u.1, .str u.2, .own 2], by kernel_rfl, by show snapR _ _ = _; kernel_rfl⟩
mutual
theorem c118 : ∀ v, valOK v → PureAt Try.prog 118 [valV v] (valV v) false
  | .mk k b n s u l, h => twinValue_step k b n s u l h.1 (c118s l h.2)
theorem c118s : ∀ l, valsOK l → ∀ v ∈ l, PureAt Try.prog 118 [valV v] (valV v) false
  | [], _, v, h => by cases h
  | x :: r, hx, v, h => by
    cases h with
    | head => exact c118 x hx.1
    | tail _ h => exact c118s r hx.2 v h
end
end Go.Proofs.Ai
