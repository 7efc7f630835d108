/- Contracts: a value such as may be, of what it is made of. -/
import Derived.Test.YtfjjeijkbhcoaaaAbSet
set_option linter.unusedVariables false
set_option linter.unusedSimpArgs false
namespace Go.Proofs.Ai
open Go

def vN : Val → Int | .mk _ _ n _ _ _ => n
def vK : Val → Int | .mk k _ _ _ _ _ => k
def vB : Val → Bool | .mk _ b _ _ _ _ => b
def vS : Val → ByteArray | .mk _ _ _ s _ _ => s
def vU : Val → Uid | .mk _ _ _ _ u _ => u
def vLst : Val → List Val | .mk _ _ _ _ _ l => l
abbrev valP (v : Val) : List FV := [.int (vK v), .boo (vB v), .int (vN v), .str (vS v), .str (vU v).1, .str (vU v).2, .sl 7 []]
def valOf : List FV → Val
  | [.sc (.int .i64 k), .sc (.bool b), .sc (.int .i64 n), .sc (.string s), .sc (.string c), .sc (.string d), _] => .mk k b n s (c, d) []
  | _ => .mk 0 false 0 noS noU []
theorem valP_plain {k : Int} {v : Val} (h : PlainK k v) : valP v = valF v ∧ valOf (valF v) = v := by
  obtain ⟨b, n, s, u, rfl⟩ := h
  exact ⟨rfl, rfl⟩
theorem plainV_K (n : Int) (s : List Int) (k : Int) (hk : 1 ≤ k ∧ k ≤ 4) : PlainK k (plainV n s k) := by
  have hcs : k = 1 ∨ k = 2 ∨ k = 3 ∨ k = 4 := by omega
  rcases hcs with rfl | rfl | rfl | rfl <;> exact ⟨_, _, _, _, rfl⟩

/-- What a value is made of. -/
inductive RawD where
  | mk (k n : Int) (s : List Int) (l : List RawD)
mutual
def rawF : RawD → List FV
  | .mk k n s l => [.int k, .int n, .sl 1 (s.map intF), .sl 4 (rawsF l)]
def rawsF : List RawD → List (List FV)
  | [] => []
  | r :: l => rawF r :: rawsF l
end
theorem rawsF_map : ∀ l : List RawD, rawsF l = l.map rawF
  | [] => rfl
  | r :: l => by simp [rawsF, rawsF_map l]
abbrev rawV (r : RawD) : AV := .agg ((rawF r).map AV.fz)
def rN : RawD → Int | .mk _ n _ _ => n
def rS : RawD → List Int | .mk _ _ s _ => s
def partK (K : Int) : Int := 1 + IntKind.i64.wrap (K.tdiv 5) % 4
def partsV (K : Int) (l : List RawD) : List Val := l.map fun r => plainV (rN r) (rS r) (partK K)
def goodV : RawD → Val
  | .mk K N s l => if 1 + K % 5 < 5 then plainV N s (1 + K % 5) else .mk 5 false 0 noS noU (setV (partsV K (l.take 8)))
theorem partK_in (K : Int) : 1 ≤ partK K ∧ partK K ≤ 4 := by
  unfold partK
  have h0 := Int.emod_nonneg (IntKind.i64.wrap (K.tdiv 5)) (show (4 : Int) ≠ 0 by omega)
  have h1 := Int.emod_lt_of_pos (IntKind.i64.wrap (K.tdiv 5)) (show (0 : Int) < 4 by omega)
  omega
theorem partsV_plain (K : Int) (l : List RawD) : ∀ v ∈ partsV K l, PlainK (partK K) v := by
  intro v hv
  obtain ⟨r, _, rfl⟩ := List.mem_map.1 hv
  exact plainV_K _ _ _ (partK_in K)
theorem valsOf_map {k : Int} {vs : List Val} (h : ∀ v ∈ vs, PlainK k v) : (vs.map valF).map valOf = vs := by
  rw [List.map_map]
  have : ∀ v ∈ vs, (valOf ∘ valF) v = id v := fun v hv => (valP_plain (h v hv)).2
  rw [List.map_congr_left this, List.map_id]

def Γg : PureT := fun f xs => match f, xs with
  | 45, [.fz (.sc (.int .i64 a)), .fz (.sc (.int .i64 n))] => some (.int (a % n), true, [0 < n ∧ n ≤ 1000000000000])
  | 46, [.agg [.fz (.sc (.int .i64 _)), .fz (.sc (.int .i64 n)), .fz (.sl 1 X), .fz (.sl 4 _)], .fz (.sc (.int .i64 k))] => some (.agg ((valP (plainV n (X.map intOf) k)).map AV.fz), false, [IntRow X ∧ 1 ≤ k ∧ k ≤ 4])
  | 72, [.fz (.sl 7 X)] => some (.tup [.agg [.int 5, .boo false, .int 0, .str noS, .str noS, .str noS, .fz (.sl 7 ((setV (X.map valOf)).map valF))], .int 0], false, [∃ (k : Int) (vs : List Val), 1 ≤ k ∧ k ≤ 4 ∧ X = vs.map valF ∧ (∀ v ∈ vs, PlainK k v) ∧ vs.length ≤ 8])
  | _, _ => none
theorem Γg_ok : PureOK Try.prog Γg := by
  intro f xs r fresh c hg hc
  unfold Γg at hg
  split at hg
  · cases hg; exact c45 _ _ hc.1
  · cases hg
    obtain ⟨⟨⟨s, rfl⟩, h⟩, _⟩ := hc
    rw [intOf_map]
    rw [(valP_plain (plainV_K _ s _ h)).1]
    exact c46 _ _ s _ _ h
  · cases hg
    obtain ⟨⟨k, vs, h1, h2, rfl, h3, h4⟩, _⟩ := hc
    rw [valsOf_map h3]
    have := c72 vs k ⟨h1, h2⟩ h3 h4
    have hvf : valV (.mk 5 false 0 noS noU (setV vs)) = .agg [.int 5, .boo false, .int 0, .str noS, .str noS, .str noS, .fz (.sl 7 ((setV vs).map valF))] := by rw [valV]; simp [valF, valsF_map]
    rw [hvf] at this
    exact this
  · cases hg
noncomputable abbrev L41 : Code := post 4 (bodyOf Try.f41)
noncomputable abbrev B41 : Code := cb (cb (cr (cl L41)))
abbrev H41 (K N : Int) (X Y out : List (List FV)) : AHeap := [some (.var 60 [.int K, .int N, .fz (.sl 1 X), .fz (.sl 4 Y)]), some (.var 33 z33), some (.row 33 7 out)]
abbrev S41 (K N : Int) (X Y out : List (List FV)) (i : Int) : St := stOf (sp 48 [(1, .ptr 0 0), (2, .ptr 1 0), (4, .own 2), (5, .int i)]) (H41 K N X Y out) 0

set_option maxRecDepth 100000 in
theorem c41 (K N : Int) (s : List Int) (l : List RawD) : PureAt Try.prog 41 [rawV (.mk K N s l)] (.agg ((valF (goodV (.mk K N s l))).map AV.fz)) false := by
  have h0 := Int.emod_nonneg K (show (5 : Int) ≠ 0 by omega)
  have h1 := Int.emod_lt_of_pos K (show (0 : Int) < 5 by omega)
  have hw : IntKind.i64.wrap (1 + K % 5) = 1 + K % 5 := IntWalk.i64_in _ (by omega)
  have hraw : rawV (.mk K N s l) = .agg [.int K, .int N, .fz (.sl 1 (s.map intF)), .fz (.sl 4 (l.map rawF))] := by simp [rawV, rawF, rawsF_map]
  rw [hraw]
  have hX : IntRow (s.map intF) := ⟨s, rfl⟩
  have hm := intOf_map s
  generalize s.map intF = X at hX hm
  have hYl : (l.map rawF).length = l.length := by simp
  have hYg : ∀ (i : Nat) r, l[i]? = some r → (l.map rawF)[i]? = some (rawF r) := fun i r h => by rw [List.getElem?_map, h]; rfl
  generalize l.map rawF = Y at hYl hYg
  by_cases h5 : 1 + K % 5 < 5
  · have hg : goodV (.mk K N s l) = plainV N s (1 + K % 5) := by show (if 1 + K % 5 < 5 then _ else _) = _; rw [if_pos h5]
    have hp := plainV_K N s (1 + K % 5) ⟨by omega, by omega⟩
    have hrun : callC Γg Δnil 41 [.agg [.int K, .int N, .fz (.sl 1 X), .fz (.sl 4 Y)]] [.br true] = some (.agg ((valP (plainV N (X.map intOf) (IntKind.i64.wrap (1 + K % 5)))).map AV.fz), true,
      [IntRow X ∧ 1 ≤ IntKind.i64.wrap (1 + K % 5) ∧ IntKind.i64.wrap (1 + K % 5) ≤ 4, decide (IntKind.i64.wrap (1 + K % 5) < 5) = true, 0 < (5 : Int) ∧ (5 : Int) ≤ 1000000000000]) := by kernel_rfl
    rw [hw, hm, (valP_plain hp).1] at hrun
    rw [hg]
    exact pure_run Γg_ok Δnil_ok hrun ⟨⟨hX, by omega, by omega⟩, by simpa using h5, by omega, trivial⟩
  · have hg : goodV (.mk K N s l) = .mk 5 false 0 noS noU (setV (partsV K (l.take 8))) := by show (if 1 + K % 5 < 5 then _ else _) = _; rw [if_neg h5]
    have hsz : szB 33 ≤ 1000 := by decide +kernel
    have h2 := Int.emod_nonneg (IntKind.i64.wrap (K.tdiv 5)) (show (4 : Int) ≠ 0 by omega)
    have h3 := Int.emod_lt_of_pos (IntKind.i64.wrap (K.tdiv 5)) (show (0 : Int) < 4 by omega)
    have hw4 : IntKind.i64.wrap (1 + IntKind.i64.wrap (K.tdiv 5) % 4) = partK K := IntWalk.i64_in _ (by omega)
    rw [hg]
    refine pureAt_of_fun (fun_of_tr Try.func41 (c := bodyOf Try.f41) (by kernel_rfl) (Nat.le_refl _) ?_)
    refine tr_pre Γg_ok Δnil_ok 4 (hs := [.br false]) (ks := [1, 2, 4]) (kills := []) (N := 3) (ts := sp 48 [(1, .ptr 0 0), (2, .ptr 1 0), (4, .own 2)]) (H := H41 K N X Y []) (cs := [decide (IntKind.i64.wrap (1 + K % 5) < 5) = false, 0 < (5 : Int) ∧ (5 : Int) ≤ 1000000000000]) (by kernel_rfl) ⟨by rw [hw]; simpa using h5, by omega, trivial⟩ ?_
    refine Tr.rangeAt (fun (i : Nat) t => t = S41 K N X Y ((partsV K (l.take i)).map valF) i ∧ i ≤ min l.length 8) (fun i => min l.length 8 - i) (fun t => ∃ i, t = S41 K N X Y ((partsV K (l.take 8)).map valF) i) (id := 0) (A := cl (cl L41)) (B := B41) (C := cr L41) (by kernel_rfl)
      (tr_run Γg_ok Δnil_ok (hs := []) (ks := [1, 2, 4, 5]) (kills := []) (N := 3) (e := .normal) (ts := (S41 K N X Y [] 0).tmps) (H := H41 K N X Y []) (cs := []) (by kernel_rfl) trivial ⟨rfl, 0, rfl, Nat.zero_le _⟩) ?_ ?_
    · rintro i t ⟨rfl, hi⟩
      by_cases hlt : i < l.length
      · have hd : Value.bool (decide ((i : Int) < (Y.length : Int))) = .bool true := by rw [decide_eq_true (show (i : Int) < (Y.length : Int) by omega)]
        by_cases h8 : i < 8
        · have hd8 : Value.bool (decide ((i : Int) < 8)) = .bool true := by rw [decide_eq_true (show (i : Int) < 8 by omega)]
          have hx : l[i]? = some l[i] := List.getElem?_eq_getElem hlt
          generalize l[i] = r at hx
          obtain ⟨k', n', s', l'⟩ := r
          have hyy := hYg i _ hx
          have hrf : rawF (.mk k' n' s' l') = [.int k', .int n', .sl 1 (s'.map intF), .sl 4 (l'.map rawF)] := by simp [rawF, rawsF_map]
          rw [hrf] at hyy
          have hX' : IntRow (s'.map intF) := ⟨s', rfl⟩
          have hm' := intOf_map s'
          generalize s'.map intF = X' at hX' hm' hyy
          generalize l'.map rawF = Y' at hyy
          have hs : (partsV K (l.take (i + 1))).map valF = (partsV K (l.take i)).map valF ++ [valP (plainV n' s' (partK K))] := by
            rw [(valP_plain (plainV_K n' s' _ (partK_in K))).1, List.take_add_one, hx]
            simp [partsV, rN, rS]
          have hol : ((partsV K (l.take i)).map valF).length ≤ 8 := by simp [partsV]; omega
          generalize (partsV K (l.take i)).map valF = out at hs hol
          have hrun : rT Γg Δnil B41 (S41 K N X Y out i) [.is .lss (.bool true), .is .lss (.bool true), .el [.int k', .int n', .sl 1 X', .sl 4 Y'], .ok, .ok] [1, 2, 4, 5] [] 3 =
            some (.normal, (S41 K N X Y out (IntKind.i64.wrap ((i : Int) + 1))).tmps, H41 K N X Y (out ++ [valP (plainV n' (X'.map intOf) (IntKind.i64.wrap (1 + IntKind.i64.wrap (K.tdiv 5) % 4)))]),
              [(out.length + 1) * szB 33 ≤ 140737488355328 ∧ out.length + 1 ≤ 140737488355328, IntRow X' ∧ 1 ≤ IntKind.i64.wrap (1 + IntKind.i64.wrap (K.tdiv 5) % 4) ∧ IntKind.i64.wrap (1 + IntKind.i64.wrap (K.tdiv 5) % 4) ≤ 4, 0 < (4 : Int) ∧ (4 : Int) ≤ 1000000000000, (5 : Int) ≠ 0,
                0 ≤ (i : Int) ∧ Y[(i : Int).toNat]? = some [.int k', .int n', .sl 1 X', .sl 4 Y'], Value.bool (decide ((i : Int) < 8)) = .bool true, Value.bool (decide ((i : Int) < (Y.length : Int))) = .bool true]) := by kernel_rfl
          rw [hw4, hm'] at hrun
          refine tr_run Γg_ok Δnil_ok hrun ⟨?_, ⟨hX', (partK_in K).1, (partK_in K).2⟩, by omega, by omega, ⟨by omega, by rw [Int.toNat_natCast]; exact hyy⟩, hd8, hd, trivial⟩ ⟨i + 1, ⟨?_, by omega⟩, by show min l.length 8 - (i + 1) < min l.length 8 - i; omega⟩
          · have := Nat.mul_le_mul (show out.length + 1 ≤ 9 by omega) hsz
            omega
          · rw [step1 (by omega), hs]; rfl
        · have hi8 : i = 8 := by omega
          subst hi8
          generalize (partsV K (l.take 8)).map valF = out
          have hrun : rT Γg Δnil B41 (S41 K N X Y out (8 : Nat)) [.is .lss (.bool true), .is .lss (.bool false)] [1, 2, 4, 5] [] 3 = some (.exit 0, (S41 K N X Y out (8 : Nat)).tmps, H41 K N X Y out, [Value.bool (decide (((8 : Nat) : Int) < 8)) = .bool false, Value.bool (decide (((8 : Nat) : Int) < (Y.length : Int))) = .bool true]) := by kernel_rfl
          exact tr_run Γg_ok Δnil_ok hrun ⟨by simp, hd, trivial⟩ ⟨rfl, _, rfl⟩
      · have hil : i = l.length := by omega
        have hd : Value.bool (decide ((i : Int) < (Y.length : Int))) = .bool false := by rw [decide_eq_false (show ¬ (i : Int) < (Y.length : Int) by omega)]
        have ht : l.take i = l.take 8 := by rw [hil, List.take_length, List.take_of_length_le (by omega)]
        rw [ht]
        generalize (partsV K (l.take 8)).map valF = out
        have hrun : rT Γg Δnil B41 (S41 K N X Y out i) [.is .lss (.bool false)] [1, 2, 4, 5] [] 3 = some (.exit 0, (S41 K N X Y out i).tmps, H41 K N X Y out, [Value.bool (decide ((i : Int) < (Y.length : Int))) = .bool false]) := by kernel_rfl
        exact tr_run Γg_ok Δnil_ok hrun ⟨hd, trivial⟩ ⟨rfl, _, rfl⟩
    · rintro t ⟨i, rfl⟩ _
      have hp := partsV_plain K (l.take 8)
      have hpl : (partsV K (l.take 8)).length ≤ 8 := by simp [partsV]; omega
      generalize partsV K (l.take 8) = vs at hp hpl
      have hvo := valsOf_map hp
      have hvf : (valF (.mk 5 false 0 noS noU (setV vs))).map AV.fz = [.int 5, .boo false, .int 0, .str noS, .str noS, .str noS, .fz (.sl 7 ((setV vs).map valF))] := by simp [valF, valsF_map]
      rw [hvf]
      have hcond : ∃ (k : Int) (us : List Val), 1 ≤ k ∧ k ≤ 4 ∧ vs.map valF = us.map valF ∧ (∀ v ∈ us, PlainK k v) ∧ us.length ≤ 8 := ⟨partK K, vs, (partK_in K).1, (partK_in K).2, rfl, hp, hpl⟩
      generalize vs.map valF = out at hcond hvo
      have hrun : rT Γg Δnil (cr L41) (S41 K N X Y out i) [] [2] [2] 2 = some (.ret, sp 48 [(2, .ptr 1 0)], [some (.var 60 [.int K, .int N, .fz (.sl 1 X), .fz (.sl 4 Y)]), some (.var 33 [.int 5, .boo false, .int 0, .str noS, .str noS, .str noS, .fz (.sl 7 ((setV (out.map valOf)).map valF))])],
        [∃ (k : Int) (us : List Val), 1 ≤ k ∧ k ≤ 4 ∧ out = us.map valF ∧ (∀ v ∈ us, PlainK k v) ∧ us.length ≤ 8]) := by kernel_rfl
      rw [hvo] at hrun
      exact tr_run Γg_ok Δnil_ok hrun ⟨hcond, trivial⟩ ⟨.agg [.int 5, .boo false, .int 0, .str noS, .str noS, .str noS, .fz (.sl 7 ((setV vs).map valF))], by kernel_rfl, by show snapR _ _ = _; kernel_rfl⟩
end Go.Proofs.Ai
