/- The walk of a row of entities, each the parent of the one ahead: its end. -/
import Derived.Test.YtfjjeijkbhcoaaaAbChain2
set_option linter.unusedVariables false
set_option linter.unusedSimpArgs false
namespace Go.Proofs.Ai
open Go

def rawF (n : Nat) (r : Bool) (i : Nat) : FV := if i + 1 < n then .sl 2 [[.str tT, .str (sb (98 + (i : Int)))]] else if r then .sl 2 [[.str tT, .str ⟨#[97]⟩]] else nilF
theorem rawE_eq (n : Nat) (r : Bool) (i : Nat) : rawE n r i = [.str tT, .str (sb (97 + (i : Int))), rawF n r i, nilF] := rfl

abbrev post13 : AExit → St → Prop := retPost Try.prog Try.f13 (fun r1 H1 => snapR H1 r1 = some (.boo true))

set_option maxRecDepth 100000 in
theorem ends13 (n k : Nat) (ring : Bool) (h2 : 2 ≤ n) (hn : n < 15) (hk : k < n) : Tr Try.prog M13 (S13c n k ring (rawN n ring n)) post13 := by
  have hok := chN_ok h2 hn ring
  have hnr := raw_nr hn ring
  have hlen := rawN_length n ring n
  have hget : ∀ i, i < n → (rawN n ring n)[i]? = some [.str tT, .str (sb (97 + (i : Int))), rawF n ring i, nilF] := fun i hi => by rw [rawN_get hi, rawE_eq]
  have hE : EntsOK (nrL (rawN n ring n)) := by rw [hnr]; exact hok.ents
  have hF : FewPs (nrL (rawN n ring n)) := by rw [hnr]; exact hok.fewPs
  have hin : ∀ i, i < n → inB (nrL (rawN n ring n)) (tT, sb (97 + (k : Int))) (tT, sb (97 + (i : Int))) = (ring || decide (k ≤ i)) := fun i hi => by
    rw [hnr, ← cc_lt (by omega : k < 15), ← cc_lt (by omega : i < 15), hok.inN (dD_of (by omega)) (dD_of (by omega))]
    exact chN_in n hn ring k hk i hi
  have hab : (aboveS (nrL (rawN n ring n)) (tT, sb (97 + (k : Int)))).length = if ring then n else n - 1 - k := by
    rw [hnr, ← cc_lt (by omega : k < 15), hok.aboveN (dD_of (by omega))]
    exact chN_above n hn ring k hk
  have hbe : (belowS (nrL (rawN n ring n)) (tT, sb (97 + (k : Int)))).length = if ring then n - 1 else k := by
    rw [hnr, ← cc_lt (by omega : k < 15), hok.belowN (dD_of (by omega)), List.length_map]
    exact chN_below n hn ring k hk
  have hc1 : ring = false → circS (nrL (rawN n ring n)) (tT, sb (97 + ((n - 1 : Nat) : Int))) [(tT, sb (97 + (k : Int)))] = true := fun hr => by
    subst hr
    rw [hnr, ← cc_lt (by omega : k < 15), ← cc_lt (by omega : n - 1 < 15)]
    show circS _ _ ([k].map cc) = true
    rw [hok.circN (chN_get n hn false (n - 1) (by omega)) (fun x hx => by simp at hx; subst hx; exact dD_of (by omega))]
    exact chN_circ1 n hn k hk
  have hc2 : ring = false → circS (nrL (rawN n ring n)) (tT, sb (97 + ((0 : Nat) : Int))) [(tT, tOther)] = false := fun hr => by
    subst hr
    rw [hnr, ← cc_lt (by omega : 0 < 15)]
    show circS _ _ ([99].map cc) = false
    rw [hok.circN (chN_get n hn false 0 (by omega)) (fun x hx => by simp at hx; subst hx; unfold dD dl; simp)]
    exact chN_circ2 n hn
  have hk0 : 0 ≤ (k : Int) ∧ (rawN n ring n)[(k : Int).toNat]? = some [.str tT, .str (sb (97 + (k : Int))), rawF n ring k, nilF] := ⟨by omega, by rw [Int.toNat_natCast]; exact hget k hk⟩
  have hn0 : IntKind.i64.wrap ((n : Int) - 1) = ((n - 1 : Nat) : Int) := by rw [IntWalk.i64_in _ (by omega)]; omega
  generalize hX : rawN n ring n = X at hlen hget hE hF hin hab hbe hc1 hc2 hk0
  refine Tr.rangeAt (fun (i : Nat) s => s = S13b n k ring X i ∧ i ≤ n) (fun i => n - i) (fun s => s = S13c n k ring X) (id := 2) (A := cl (cl M13)) (B := C13) (C := E13) (by kernel_rfl)
    (tr_run Γt_ok Δnil_ok (hs := []) (ks := [0, 2, 7, 10, 11]) (kills := []) (N := 0) (e := .normal) (ts := (S13b n k ring X 0).tmps) (H := []) (cs := []) (by kernel_rfl) trivial ⟨rfl, 0, rfl, Nat.zero_le _⟩) ?_ ?_
  · rintro i t ⟨rfl, hi⟩
    by_cases hlt : i < n
    · have hd : decide ((i : Int) < (n : Int)) = true := by rw [decide_eq_true_iff]; omega
      have hw : IntKind.i64.wrap ((i : Int) + 1) = ((i + 1 : Nat) : Int) := by rw [inc (by omega) (by omega)]; omega
      have hi0 : 0 ≤ (i : Int) ∧ X[(i : Int).toNat]? = some [.str tT, .str (sb (97 + (i : Int))), rawF n ring i, nilF] := ⟨by omega, by rw [Int.toNat_natCast]; exact hget i hlt⟩
      have hii := hin i hlt
      generalize rawF n ring i = fi at hi0
      generalize rawF n ring k = fk at hk0
      cases ring with
      | true =>
        have hrun : rT Γt Δnil C13 (S13b n k true X i) [.br true, .el [.str tT, .str (sb (97 + (k : Int))), fk, nilF], .el [.str tT, .str (sb (97 + (i : Int))), fi, nilF], .br true, .br false] [0, 2, 7, 10, 11] [] 0 =
          some (.normal, (S13b n k true X (IntKind.i64.wrap ((i : Int) + 1))).tmps, [], [(!inB (nrL X) (tT, sb (97 + (k : Int))) (tT, sb (97 + (i : Int))) == true) = false, true = true, EntsOK (nrL X),
            0 ≤ (i : Int) ∧ X[(i : Int).toNat]? = some [.str tT, .str (sb (97 + (i : Int))), fi, nilF], 0 ≤ (k : Int) ∧ X[(k : Int).toNat]? = some [.str tT, .str (sb (97 + (k : Int))), fk, nilF], decide ((i : Int) < (n : Int)) = true]) := by kernel_rfl
        refine tr_run Γt_ok Δnil_ok hrun ⟨by rw [hii]; simp, rfl, hE, hi0, hk0, hd, trivial⟩ ⟨i + 1, ⟨?_, by omega⟩, by show n - (i + 1) < n - i; omega⟩
        rw [hw]; rfl
      | false =>
        have hrun : rT Γt Δnil C13 (S13b n k false X i) [.br true, .el [.str tT, .str (sb (97 + (k : Int))), fk, nilF], .el [.str tT, .str (sb (97 + (i : Int))), fi, nilF], .br false, .br false] [0, 2, 7, 10, 11] [] 0 =
          some (.normal, (S13b n k false X (IntKind.i64.wrap ((i : Int) + 1))).tmps, [], [(!inB (nrL X) (tT, sb (97 + (k : Int))) (tT, sb (97 + (i : Int))) == decide ((i : Int) ≥ (k : Int))) = false, false = false, EntsOK (nrL X),
            0 ≤ (i : Int) ∧ X[(i : Int).toNat]? = some [.str tT, .str (sb (97 + (i : Int))), fi, nilF], 0 ≤ (k : Int) ∧ X[(k : Int).toNat]? = some [.str tT, .str (sb (97 + (k : Int))), fk, nilF], decide ((i : Int) < (n : Int)) = true]) := by kernel_rfl
        refine tr_run Γt_ok Δnil_ok hrun ⟨?_, rfl, hE, hi0, hk0, hd, trivial⟩ ⟨i + 1, ⟨?_, by omega⟩, by show n - (i + 1) < n - i; omega⟩
        · rw [hii]
          have : decide ((i : Int) ≥ (k : Int)) = decide (k ≤ i) := decide_eq_decide.2 (by omega)
          rw [this]; simp
        · rw [hw]; rfl
    · have hin' : i = n := by omega
      subst hin'
      have hrun : rT Γt Δnil C13 (S13b i k ring X i) [.br false] [0, 2, 7, 10] [] 0 = some (.exit 2, (S13c i k ring X).tmps, [], [decide ((i : Int) < (i : Int)) = false]) := by kernel_rfl
      exact tr_run Γt_ok Δnil_ok hrun ⟨by simp, trivial⟩ ⟨rfl, rfl⟩
  · rintro t rfl _
    have hn1 : 0 ≤ IntKind.i64.wrap ((n : Int) - 1) ∧ X[(IntKind.i64.wrap ((n : Int) - 1)).toNat]? = some [.str tT, .str (sb (97 + ((n - 1 : Nat) : Int))), rawF n ring (n - 1), nilF] := by
      rw [hn0, Int.toNat_natCast]
      exact ⟨by omega, hget (n - 1) (by omega)⟩
    have h00 : 0 ≤ (0 : Int) ∧ X[(0 : Int).toNat]? = some [.str tT, .str (sb (97 + ((0 : Nat) : Int))), rawF n ring 0, nilF] := ⟨by omega, hget 0 (by omega)⟩
    generalize rawF n ring k = fk at hk0
    generalize rawF n ring (n - 1) = fn at hn1
    generalize rawF n ring 0 = f0 at h00
    cases ring with
    | true =>
      have hrun : rT Γt Δnil E13 (S13c n k true X) [.el [.str tT, .str (sb (97 + (k : Int))), fk, nilF], .is .eql (.bool true), .el [.str tT, .str (sb (97 + (k : Int))), fk, nilF], .is .eql (.bool true)] [6] [] 0 =
        some (.ret, sp 152 [(6, .boo true)], [], [Value.bool ((((belowS (nrL X) (tT, sb (97 + (k : Int)))).map uidF).length : Int) == IntKind.i64.wrap ((n : Int) - 1)) = .bool true, EntsOK (nrL X), 0 ≤ (k : Int) ∧ X[(k : Int).toNat]? = some [.str tT, .str (sb (97 + (k : Int))), fk, nilF],
          Value.bool ((((aboveS (nrL X) (tT, sb (97 + (k : Int)))).map uidF).length : Int) == (n : Int)) = .bool true, EntsOK (nrL X), FewPs (nrL X), 0 ≤ (k : Int) ∧ X[(k : Int).toNat]? = some [.str tT, .str (sb (97 + (k : Int))), fk, nilF]]) := by kernel_rfl
      refine tr_run Γt_ok Δnil_ok hrun ⟨?_, hE, hk0, ?_, hE, hF, hk0, trivial⟩ ⟨.boo true, by kernel_rfl, by show snapR _ _ = _; kernel_rfl⟩
      · rw [List.length_map, hbe, hn0]; simp
      · rw [List.length_map, hab]; simp
    | false =>
      have hrun : rT Γt Δnil E13 (S13c n k false X) [.el [.str tT, .str (sb (97 + (k : Int))), fk, nilF], .is .eql (.bool true), .el [.str tT, .str (sb (97 + (k : Int))), fk, nilF], .is .eql (.bool true), .el [.str tT, .str (sb (97 + ((n - 1 : Nat) : Int))), fn, nilF], .el [.str tT, .str (sb (97 + (k : Int))), fk, nilF], .el [.str tT, .str (sb (97 + ((0 : Nat) : Int))), f0, nilF]] [6] [] 0 =
        some (.ret, sp 152 [(6, .boo true)], [], [EntsOK (nrL X), circS (nrL X) (tT, sb (97 + ((0 : Nat) : Int))) [(tT, tOther)] = !(tOther.size == 5), 0 ≤ (0 : Int) ∧ X[(0 : Int).toNat]? = some [.str tT, .str (sb (97 + ((0 : Nat) : Int))), f0, nilF],
          EntsOK (nrL X), circS (nrL X) (tT, sb (97 + ((n - 1 : Nat) : Int))) [(tT, sb (97 + (k : Int)))] = !((sb (97 + (k : Int))).size == 5), 0 ≤ (k : Int) ∧ X[(k : Int).toNat]? = some [.str tT, .str (sb (97 + (k : Int))), fk, nilF],
          0 ≤ IntKind.i64.wrap ((n : Int) - 1) ∧ X[(IntKind.i64.wrap ((n : Int) - 1)).toNat]? = some [.str tT, .str (sb (97 + ((n - 1 : Nat) : Int))), fn, nilF],
          Value.bool ((((belowS (nrL X) (tT, sb (97 + (k : Int)))).map uidF).length : Int) == (k : Int)) = .bool true, EntsOK (nrL X), 0 ≤ (k : Int) ∧ X[(k : Int).toNat]? = some [.str tT, .str (sb (97 + (k : Int))), fk, nilF],
          Value.bool ((((aboveS (nrL X) (tT, sb (97 + (k : Int)))).map uidF).length : Int) == IntKind.i64.wrap (IntKind.i64.wrap ((n : Int) - 1) - (k : Int))) = .bool true, EntsOK (nrL X), FewPs (nrL X), 0 ≤ (k : Int) ∧ X[(k : Int).toNat]? = some [.str tT, .str (sb (97 + (k : Int))), fk, nilF]]) := by kernel_rfl
      refine tr_run Γt_ok Δnil_ok hrun ⟨hE, (hc2 rfl).trans (by decide), h00, hE, (hc1 rfl).trans rfl, hk0, hn1, ?_, hE, hk0, ?_, hE, hF, hk0, trivial⟩ ⟨.boo true, by kernel_rfl, by show snapR _ _ = _; kernel_rfl⟩
      · rw [List.length_map, hbe]; simp
      · rw [List.length_map, hab, hn0, IntWalk.i64_in _ (by omega)]
        simp
        omega

set_option maxRecDepth 100000 in
theorem c13 (n0 a : Int) (ring : Bool) : PureAt Try.prog 13 [.int n0, .int a, .boo ring] (.boo true) true := by
  refine PureAt.scalar (pureAt_of_fun (fun_of_tr Try.func13 (c := bodyOf Try.f13) (by kernel_rfl) (Nat.le_refl _) ?_))
  have h0 := Int.emod_nonneg n0 (show (13 : Int) ≠ 0 by omega)
  have h1 := Int.emod_lt_of_pos n0 (show (0 : Int) < 13 by omega)
  refine tr_pre Γt_ok Δnil_ok 4 (hs := []) (ks := [0, 1, 2, 7]) (kills := []) (N := 1) (ts := sp 152 [(0, .int (IntKind.i64.wrap (2 + n0 % 13))), (1, .int a), (2, .boo ring), (7, .own 0)]) (H := [some (.row 29 4 [])]) (cs := [0 < (13 : Int) ∧ (13 : Int) ≤ 1000000000000]) (by kernel_rfl) ⟨by omega, trivial⟩ ?_
  have hw : IntKind.i64.wrap (2 + n0 % 13) = (((2 + n0 % 13).toNat : Nat) : Int) := by rw [IntWalk.i64_in _ (by omega)]; omega
  rw [hw]
  have hn2 : 2 ≤ (2 + n0 % 13).toNat := by omega
  have hn15 : (2 + n0 % 13).toNat < 15 := by omega
  generalize (2 + n0 % 13).toNat = n at hn2 hn15
  refine build13 n a ring hn15 ?_
  have hk0 := Int.emod_nonneg a (show (n : Int) ≠ 0 by omega)
  have hk1 := Int.emod_lt_of_pos a (show (0 : Int) < (n : Int) by omega)
  have hends := ends13 n (a % (n : Int)).toNat ring hn2 hn15 (by omega)
  rw [show (((a % (n : Int)).toNat : Nat) : Int) = a % (n : Int) by omega] at hends
  generalize rawN n ring n = X at hends
  exact tr_pre Γt_ok Δnil_ok 1 (hs := []) (ks := [0, 2, 7, 10]) (kills := [0]) (N := 0) (ts := (S13c n (a % (n : Int)) ring X).tmps) (H := []) (cs := [0 < (n : Int) ∧ (n : Int) ≤ 1000000000000]) (by kernel_rfl) ⟨by omega, trivial⟩ hends
end Go.Proofs.Ai
