/- The walk of a row of entities, each the parent of the one ahead: it says yes. -/
import Derived.Test.YtfjjeijkbhcoaaaAbChain
set_option linter.unusedVariables false
set_option linter.unusedSimpArgs false
namespace Go.Proofs.Ai
open Go

abbrev knRaw : List (List FV) := [[.str tT, .str ⟨#[97]⟩, .sl 2 [[.str tT, .str ⟨#[98]⟩]], nilF], [.str tT, .str ⟨#[98]⟩, .sl 2 [[.str tT, .str ⟨#[99]⟩]], nilF]]
theorem kn_nr : nrL knRaw = knE := by kernel_rfl
theorem u3_cc : u3 97 = cc 0 ∧ u3 98 = cc 1 ∧ u3 99 = cc 2 := ⟨by kernel_rfl, by kernel_rfl, by kernel_rfl⟩
theorem dD_of {k : Nat} (h : k < 15) : dD k := by
  unfold dD dl
  match k, h with
  | 0, _ | 1, _ | 2, _ | 3, _ | 4, _ | 5, _ | 6, _ | 7, _ | 8, _ | 9, _ | 10, _ | 11, _ | 12, _ | 13, _ | 14, _ => simp
  | k + 15, h => omega
theorem kn_above : aboveS knE (u3 97) = [u3 98, u3 99] := by
  obtain ⟨e1, e2⟩ := kn_ok.ps (i := 0) (dD_of (by omega))
  have hps : psN [(0, [1]), (1, [2])] 0 = [1] := by decide
  have hc := (kn_ok.climb (fr := psN [(0, [1]), (1, [2])] 0) e2).1
  have hcl : climbL [(0, [1]), (1, [2])] (psN [(0, [1]), (1, [2])] 0) = [1, 2] := by decide +kernel
  unfold aboveS
  rw [u3_cc.1]
  show sortU (climbS (lE cc [(0, [1]), (1, [2])]) (psR (lE cc [(0, [1]), (1, [2])]) (cc 0))) = _
  rw [e1, hc, hcl, u3_cc.2.1, u3_cc.2.2]
  refine sorted_eq (List.mergeSort_perm _ _) (sortU_sorted _) ?_
  show [cc 1, cc 2].Pairwise _
  decide +kernel
set_option maxRecDepth 100000 in
theorem c24 : PureAt Try.prog 24 [] (.boo true) true := by
  refine PureAt.scalar ?_
  have hrun : callC Γk Δnil 24 [] [] = some (.boo true, true, [EntsOK (nrL knRaw), inB (nrL knRaw) (u3 99) (u3 97) = (((⟨#[97]⟩ : ByteArray).data.toList == [99])), EntsOK (nrL knRaw), inB (nrL knRaw) (u3 97) (u3 99) = (((⟨#[99]⟩ : ByteArray).data.toList == [99])),
    EntsOK (nrL knRaw), FewPs (nrL knRaw), aboveS (nrL knRaw) (u3 97) = [u3 98, u3 99]]) := by kernel_rfl
  rw [kn_nr] at hrun
  have h1 : inB knE (u3 99) (u3 97) = false := by
    rw [u3_cc.1, u3_cc.2.2]
    show inB (lE cc [(0, [1]), (1, [2])]) (cc 2) (cc 0) = false
    rw [kn_ok.inN (dD_of (by omega)) (dD_of (by omega))]
    decide +kernel
  have h2 : inB knE (u3 97) (u3 99) = true := by
    rw [u3_cc.1, u3_cc.2.2]
    show inB (lE cc [(0, [1]), (1, [2])]) (cc 0) (cc 2) = true
    rw [kn_ok.inN (dD_of (by omega)) (dD_of (by omega))]
    decide +kernel
  exact pure_run Γk_ok Δnil_ok hrun ⟨kn_ok.ents, h1.trans (by decide), kn_ok.ents, h2.trans (by decide), kn_ok.ents, kn_ok.fewPs, kn_above, trivial⟩

theorem Γt_ok : PureOK Try.prog Γt := by
  intro f xs r fresh c hg hc
  unfold Γt at hg
  split at hg
  · cases hg
    rename_i els a b c d
    exact wk1 (fun x hx => by simp at hx; rcases hx with rfl | rfl; exact awk_uid (a, b); exact awk_uid (c, d)) (c28 _ (a, b) (c, d) hc.1)
  · cases hg
    rename_i els a b
    exact wk1 (els := els) (fun x hx => by simp at hx; subst hx; exact awk_uid (a, b)) (c50 _ (a, b) hc.1 hc.2.1)
  · cases hg
    rename_i els a b
    exact wk1 (els := els) (fun x hx => by simp at hx; subst hx; exact awk_uid (a, b)) (c27 _ (a, b) hc.1)
  · cases hg
    rename_i els a b c d
    rw [← hc.2.1]
    refine wk1 (els := els) (fun x hx => ?_) (c51 _ (a, b) [(c, d)] hc.1 (by simp))
    simp at hx
    rcases hx with rfl | rfl
    · exact awk_uid (a, b)
    · exact FW.refl _
  · cases hg; exact c24
  · cases hg; exact c26 _ _ hc.1
  · cases hg

noncomputable abbrev L13 : Code := post 4 (bodyOf Try.f13)
noncomputable abbrev B13 : Code := cb (cb (cr (cl L13)))
noncomputable abbrev N13 : Code := cr L13
noncomputable abbrev M13 : Code := post 1 N13
noncomputable abbrev C13 : Code := cb (cb (cr (cl M13)))
noncomputable abbrev E13 : Code := cr M13
abbrev S13 (n a : Int) (ring : Bool) (els : List (List FV)) (i : Int) : St := stOf (sp 152 [(0, .int n), (1, .int a), (2, .boo ring), (7, .own 0), (8, .int i)]) [some (.row 29 4 els)] 0
abbrev S13b (n k : Int) (ring : Bool) (els : List (List FV)) (i : Int) : St := stOf (sp 152 [(0, .int n), (2, .boo ring), (7, .fz (.sl 4 els)), (10, .int k), (11, .int i)]) [] 0
abbrev S13c (n k : Int) (ring : Bool) (els : List (List FV)) : St := stOf (sp 152 [(0, .int n), (2, .boo ring), (7, .fz (.sl 4 els)), (10, .int k)]) [] 0

theorem inc {i : Int} (h0 : 0 ≤ i) (h1 : i ≤ 1000000) : IntKind.i64.wrap (i + 1) = i + 1 := IntWalk.i64_in _ (by omega)

set_option maxRecDepth 100000 in
theorem build13 (n : Nat) (a : Int) (ring : Bool) (hn : n < 15) {R : AExit → St → Prop} (h : Tr Try.prog N13 (S13 n a ring (rawN n ring n) n) R) :
    Tr Try.prog L13 (stOf (sp 152 [(0, .int n), (1, .int a), (2, .boo ring), (7, .own 0)]) [some (.row 29 4 [])] 0) R := by
  have hsz : szB 29 ≤ 1000 := by decide +kernel
  refine Tr.rangeAt (fun (i : Nat) s => s = S13 n a ring (rawN n ring i) i ∧ i ≤ n) (fun i => n - i) (fun s => s = S13 n a ring (rawN n ring n) n) (id := 0) (A := cl (cl L13)) (B := B13) (C := N13) (by kernel_rfl)
    (tr_run Γt_ok Δnil_ok (hs := []) (ks := [0, 1, 2, 7, 8]) (kills := []) (N := 1) (e := .normal) (ts := (S13 n a ring [] 0).tmps) (H := [some (.row 29 4 [])]) (cs := []) (by kernel_rfl) trivial ⟨rfl, 0, rfl, Nat.zero_le _⟩) ?_ (fun t ht _ => by rw [ht]; exact h)
  rintro i t ⟨rfl, hi⟩
  by_cases hlt : i < n
  · have hd : decide ((i : Int) < (n : Int)) = true := by rw [decide_eq_true_iff]; omega
    have hw : IntKind.i64.wrap ((i : Int) + 1) = ((i + 1 : Nat) : Int) := by rw [inc (by omega) (by omega)]; omega
    have hlen := rawN_length n ring i
    have hs := rawN_succ n ring i
    generalize hX : rawN n ring i = X at hlen hs
    have hchk : (X.length + 1) * szB 29 ≤ 140737488355328 ∧ X.length + 1 ≤ 140737488355328 := by
      have := Nat.mul_le_mul (show X.length + 1 ≤ 15 by omega) hsz
      omega
    by_cases h1 : i + 1 < n
    · have he : rawE n ring i = [.str tT, .str (sb (97 + (i : Int))), .sl 2 [[.str tT, .str (sb (98 + (i : Int)))]], nilF] := by unfold rawE; rw [if_pos h1]
      have hrun : rT Γt Δnil B13 (S13 n a ring X i) [.br true, .br true, .ok] [0, 1, 2, 7, 8] [] 1 = some (.normal, (S13 n a ring X (IntKind.i64.wrap ((i : Int) + 1))).tmps, [some (.row 29 4 (X ++ [[.str tT, .str (sb (97 + (i : Int))), .sl 2 [[.str tT, .str (sb (98 + (i : Int)))]], nilF]]))],
        [(X.length + 1) * szB 29 ≤ 140737488355328 ∧ X.length + 1 ≤ 140737488355328, decide (IntKind.i64.wrap ((i : Int) + 1) < (n : Int)) = true, decide ((i : Int) < (n : Int)) = true]) := by kernel_rfl
      refine tr_run Γt_ok Δnil_ok hrun ⟨hchk, by rw [hw, decide_eq_true_iff]; omega, hd, trivial⟩ ⟨i + 1, ⟨?_, by omega⟩, by show n - (i + 1) < n - i; omega⟩
      rw [hw, hs, he]
      rfl
    · have hd2 : decide (IntKind.i64.wrap ((i : Int) + 1) < (n : Int)) = false := by rw [hw, decide_eq_false_iff_not]; omega
      cases ring with
      | true =>
        have he : rawE n true i = [.str tT, .str (sb (97 + (i : Int))), .sl 2 [[.str tT, .str ⟨#[97]⟩]], nilF] := by unfold rawE; rw [if_neg h1]; rfl
        have hrun : rT Γt Δnil B13 (S13 n a true X i) [.br true, .br false, .ok] [0, 1, 2, 7, 8] [] 1 = some (.normal, (S13 n a true X (IntKind.i64.wrap ((i : Int) + 1))).tmps, [some (.row 29 4 (X ++ [[.str tT, .str (sb (97 + (i : Int))), .sl 2 [[.str tT, .str ⟨#[97]⟩]], nilF]]))],
          [(X.length + 1) * szB 29 ≤ 140737488355328 ∧ X.length + 1 ≤ 140737488355328, decide (IntKind.i64.wrap ((i : Int) + 1) < (n : Int)) = false, decide ((i : Int) < (n : Int)) = true]) := by kernel_rfl
        refine tr_run Γt_ok Δnil_ok hrun ⟨hchk, hd2, hd, trivial⟩ ⟨i + 1, ⟨?_, by omega⟩, by show n - (i + 1) < n - i; omega⟩
        rw [hw, hs, he]
        rfl
      | false =>
        have he : rawE n false i = [.str tT, .str (sb (97 + (i : Int))), nilF, nilF] := by unfold rawE; rw [if_neg h1]; rfl
        have hrun : rT Γt Δnil B13 (S13 n a false X i) [.br true, .br false, .ok] [0, 1, 2, 7, 8] [] 1 = some (.normal, (S13 n a false X (IntKind.i64.wrap ((i : Int) + 1))).tmps, [some (.row 29 4 (X ++ [[.str tT, .str (sb (97 + (i : Int))), nilF, nilF]]))],
          [(X.length + 1) * szB 29 ≤ 140737488355328 ∧ X.length + 1 ≤ 140737488355328, decide (IntKind.i64.wrap ((i : Int) + 1) < (n : Int)) = false, decide ((i : Int) < (n : Int)) = true]) := by kernel_rfl
        refine tr_run Γt_ok Δnil_ok hrun ⟨hchk, hd2, hd, trivial⟩ ⟨i + 1, ⟨?_, by omega⟩, by show n - (i + 1) < n - i; omega⟩
        rw [hw, hs, he]
        rfl
  · have hin : i = n := by omega
    subst hin
    generalize rawN i ring i = X
    have hrun : rT Γt Δnil B13 (S13 i a ring X i) [.br false] [0, 1, 2, 7, 8] [] 1 = some (.exit 0, (S13 i a ring X i).tmps, [some (.row 29 4 X)], [decide ((i : Int) < (i : Int)) = false]) := by kernel_rfl
    exact tr_run Γt_ok Δnil_ok hrun ⟨by simp, trivial⟩ ⟨rfl, rfl⟩
end Go.Proofs.Ai
