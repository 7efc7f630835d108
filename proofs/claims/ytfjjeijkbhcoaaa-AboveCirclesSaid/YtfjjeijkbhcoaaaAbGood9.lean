/- Contracts: entities such as may be, of what they are made of. -/
import Derived.Test.YtfjjeijkbhcoaaaAbGood8
set_option linter.unusedVariables false
set_option linter.unusedSimpArgs false
namespace Go.Proofs.Ai
open Go

theorem normAs_fold (l : List (ByteArray × Val)) (i : Nat) (v : ByteArray × Val) (h : l[i]? = some v) : normAs (l.take (i + 1)) = addA (normAs (l.take i)) v := by
  unfold normAs
  rw [List.take_add_one, h]
  simp
theorem addA_length (acc : List (ByteArray × Val)) (a : ByteArray × Val) : (addA acc a).length ≤ acc.length + 1 := by
  unfold addA
  split
  · simp
  · rename_i b _
    cases ltS b.1 a.1 with
    | true => rw [cond_true]; simp
    | false => rw [cond_false]; omega
theorem addA_mem {acc : List (ByteArray × Val)} {a x : ByteArray × Val} (h : x ∈ addA acc a) : x ∈ acc ∨ x = a := by
  unfold addA at h
  split at h
  · simpa using h
  · rename_i b _
    cases hb : ltS b.1 a.1 with
    | true => rw [hb, cond_true] at h; simpa using h
    | false => rw [hb, cond_false] at h; exact .inl h
theorem normAs_length (l : List (ByteArray × Val)) : (normAs l).length ≤ l.length := by
  have : ∀ (vs acc : List (ByteArray × Val)), (vs.foldl addA acc).length ≤ acc.length + vs.length := by
    intro vs
    induction vs with
    | nil => intro acc; simp
    | cons v vs ih =>
      intro acc
      have h1 := ih (addA acc v)
      have h2 := addA_length acc v
      simp only [List.foldl_cons, List.length_cons]
      omega
  have := this l []
  simpa [normAs] using this
theorem normAs_mem {l : List (ByteArray × Val)} {x : ByteArray × Val} (h : x ∈ normAs l) : x ∈ l := by
  have : ∀ (vs acc : List (ByteArray × Val)), x ∈ vs.foldl addA acc → x ∈ acc ∨ x ∈ vs := by
    intro vs
    induction vs with
    | nil => intro acc h; exact .inl h
    | cons v vs ih =>
      intro acc h
      rcases ih _ h with h | h
      · rcases addA_mem h with h | rfl
        · exact .inl h
        · exact .inr List.mem_cons_self
      · exact .inr (List.mem_cons_of_mem _ h)
  rcases this l [] h with h | h
  · cases h
  · exact h
theorem attrF_q (a : ByteArray × Val) : attrF a = .str a.1 :: valQ a.2 := by rw [valQ_eq]

set_option maxRecDepth 100000 in
theorem attrs25 (e : EntR) (l : List EntD) (e0 : EntD) (L O : List (List FV)) (i : Int) (u : Uid) (ats : List (ByteArray × Val)) (ps0 up : List (List FV)) (k0 : Int) (hp : ats.length ≤ 100) {R : AExit → St → Prop} (h : ∀ k, Tr Try.prog F25 (Sa L O i u (ats.map attrF) up ((normAs ats).map attrF) k) R) :
    Tr Try.prog (cr P25) (Sp L O i u ps0 (ats.map attrF) up k0) R := by
  have hΓ := Γz_ok e l e0
  have hsz : szB 35 ≤ 1000 := by decide +kernel
  have hXl : (ats.map attrF).length = ats.length := by simp
  have hXg : ∀ (j : Nat) x, ats[j]? = some x → (ats.map attrF)[j]? = some (.str x.1 :: valQ x.2) := fun j x h => by rw [List.getElem?_map, h, ← attrF_q]; rfl
  generalize ats.map attrF = X at hXl hXg h
  refine tr_pre hΓ Δnil_ok 2 (hs := []) (ks := [0, 3, 4, 5, 10]) (kills := []) (N := 3) (ts := sp 128 [(0, .fz (.sl 5 L)), (3, .fz (.sl 4 O)), (4, .int i), (5, .ptr 0 0), (10, .own 2)]) (H := Ha u X up []) (cs := []) (by kernel_rfl) trivial ?_
  refine Tr.rangeAt (fun (k : Nat) t => t = Sa L O i u X up ((normAs (ats.take k)).map attrF) k ∧ k ≤ ats.length) (fun k => ats.length - k) (fun t => t = Sa L O i u X up ((normAs ats).map attrF) ats.length) (id := 6) (A := cl (cl Q25)) (B := AB25) (C := F25) (by kernel_rfl)
    (tr_run hΓ Δnil_ok (hs := []) (ks := [0, 3, 4, 5, 10, 11]) (kills := []) (N := 3) (e := .normal) (ts := (Sa L O i u X up [] 0).tmps) (H := Ha u X up []) (cs := []) (by kernel_rfl) trivial ⟨rfl, 0, rfl, Nat.zero_le _⟩) ?_ (fun t ht _ => by rw [ht]; exact h _)
  rintro k t ⟨rfl, hi⟩
  by_cases hlt : k < ats.length
  · have hx : ats[k]? = some ats[k] := List.getElem?_eq_getElem hlt
    generalize ats[k] = a at hx
    have hfold := normAs_fold ats k a hx
    have hol : (normAs (ats.take k)).length ≤ 100 := by have := normAs_length (ats.take k); simp at this; omega
    have hxa := hXg k a hx
    rw [show (normAs (ats.take k)).map attrF = ((normAs (ats.take k)).map attrF) from rfl]
    generalize normAs (ats.take k) = acc at hfold hol
    obtain ⟨nm, x⟩ := a
    have hc1 : 0 ≤ (k : Int) ∧ X[(k : Int).toNat]? = some (.str nm :: valQ x) := ⟨by omega, by rw [Int.toNat_natCast]; exact hxa⟩
    have hd : decide ((k : Int) < (X.length : Int)) = true := by rw [decide_eq_true_iff]; omega
    have hgo : ∀ (j : Nat) b, acc[j]? = some b → (acc.map attrF)[j]? = some (.str b.1 :: valQ b.2) := fun j b h => by rw [List.getElem?_map, h, ← attrF_q]; rfl
    have hal : (acc.map attrF).length = acc.length := by simp
    have happ : (acc ++ [(nm, x)]).map attrF = acc.map attrF ++ [.str nm :: valQ x] := by rw [List.map_append, List.map_cons, List.map_nil, attrF_q]
    have hchk : ((acc.map attrF).length + 1) * szB 35 ≤ 140737488355328 ∧ (acc.map attrF).length + 1 ≤ 140737488355328 := by
      have := Nat.mul_le_mul (show (acc.map attrF).length + 1 ≤ 101 by omega) hsz
      omega
    have hadd : addA acc (nm, x) = match acc[acc.length - 1]? with
      | none => acc ++ [(nm, x)]
      | some b => bif ltS b.1 nm then acc ++ [(nm, x)] else acc := rfl
    by_cases h0 : acc.length = 0
    · have hnone : acc[acc.length - 1]? = none := List.getElem?_eq_none (by omega)
      rw [hnone] at hadd
      have h00 : Value.bool (((acc.map attrF).length : Int) == 0) = .bool true := by
        have : (((acc.map attrF).length : Int) == 0) = true := by rw [beq_iff_eq]; omega
        rw [this]
      have hfm : (normAs (ats.take (k + 1))).map attrF = acc.map attrF ++ [.str nm :: valQ x] := by rw [hfold, hadd]; exact happ
      generalize acc.map attrF = Z at hchk h00 hfm
      have hrun : rT (Γz e l e0) Δnil AB25 (Sa L O i u X up Z k) [.br true, .is .eql (.bool true), .el (.str nm :: valQ x), .ok] [0, 3, 4, 5, 10, 11] [] 3 = some (.normal, (Sa L O i u X up Z (IntKind.i64.wrap ((k : Int) + 1))).tmps, Ha u X up (Z ++ [.str nm :: valQ x]),
        [(Z.length + 1) * szB 35 ≤ 140737488355328 ∧ Z.length + 1 ≤ 140737488355328, 0 ≤ (k : Int) ∧ X[(k : Int).toNat]? = some (.str nm :: valQ x), Value.bool ((Z.length : Int) == 0) = .bool true, decide ((k : Int) < (X.length : Int)) = true]) := by kernel_rfl
      refine tr_run hΓ Δnil_ok hrun ⟨hchk, hc1, h00, hd, trivial⟩ ⟨k + 1, ⟨?_, by omega⟩, by show ats.length - (k + 1) < ats.length - k; omega⟩
      rw [step1 (by omega), hfm]; rfl
    · have hb : acc[acc.length - 1]? = some (acc[acc.length - 1]'(by omega)) := List.getElem?_eq_getElem (by omega)
      generalize (acc[acc.length - 1]'(by omega)) = b at hb
      rw [hb] at hadd
      have hadd : addA acc (nm, x) = bif ltS b.1 nm then acc ++ [(nm, x)] else acc := hadd
      have hbg := hgo _ b hb
      have h00 : Value.bool (((acc.map attrF).length : Int) == 0) = .bool false := by
        have : (((acc.map attrF).length : Int) == 0) = false := by rw [beq_eq_false_iff_ne]; omega
        rw [this]
      have hw1 : IntKind.i64.wrap (((acc.map attrF).length : Int) - 1) = ((acc.length - 1 : Nat) : Int) := by rw [IntWalk.i64_in _ (by omega)]; omega
      have hc2 : (acc.map attrF)[(IntKind.i64.wrap (((acc.map attrF).length : Int) - 1)).toNat]? = some (.str b.1 :: valQ b.2) := by rw [hw1, Int.toNat_natCast]; exact hbg
      have hc3 : 0 ≤ IntKind.i64.wrap (((acc.map attrF).length : Int) - 1) ∧ IntKind.i64.wrap (((acc.map attrF).length : Int) - 1) < ((acc.map attrF).length : Int) := by rw [hw1]; omega
      obtain ⟨nb, y⟩ := b
      cases hlt2 : ltS nb nm with
      | true =>
        have hfm : (normAs (ats.take (k + 1))).map attrF = acc.map attrF ++ [.str nm :: valQ x] := by rw [hfold, hadd]; show (bif ltS nb nm then _ else _ : List (ByteArray × Val)).map attrF = _; rw [hlt2, cond_true]; exact happ
        generalize acc.map attrF = Z at hchk h00 hc2 hc3 hfm
        have hrun : rT (Γz e l e0) Δnil AB25 (Sa L O i u X up Z k) [.br true, .is .eql (.bool false), .ok, .el (.str nb :: valQ y), .el (.str nm :: valQ x), .br false, .br true, .el (.str nm :: valQ x), .ok] [0, 3, 4, 5, 10, 11] [] 3 = some (.normal, (Sa L O i u X up Z (IntKind.i64.wrap ((k : Int) + 1))).tmps, Ha u X up (Z ++ [.str nm :: valQ x]),
          [(Z.length + 1) * szB 35 ≤ 140737488355328 ∧ Z.length + 1 ≤ 140737488355328, 0 ≤ (k : Int) ∧ X[(k : Int).toNat]? = some (.str nm :: valQ x), ltS nb nm = true, false = false, 0 ≤ (k : Int) ∧ X[(k : Int).toNat]? = some (.str nm :: valQ x), Z[(IntKind.i64.wrap ((Z.length : Int) - 1)).toNat]? = some (.str nb :: valQ y),
            0 ≤ IntKind.i64.wrap ((Z.length : Int) - 1) ∧ IntKind.i64.wrap ((Z.length : Int) - 1) < (Z.length : Int), Value.bool ((Z.length : Int) == 0) = .bool false, decide ((k : Int) < (X.length : Int)) = true]) := by kernel_rfl
        refine tr_run hΓ Δnil_ok hrun ⟨hchk, hc1, hlt2, rfl, hc1, hc2, hc3, h00, hd, trivial⟩ ⟨k + 1, ⟨?_, by omega⟩, by show ats.length - (k + 1) < ats.length - k; omega⟩
        rw [step1 (by omega), hfm]; rfl
      | false =>
        have hfm : (normAs (ats.take (k + 1))).map attrF = acc.map attrF := by rw [hfold, hadd]; show (bif ltS nb nm then _ else _ : List (ByteArray × Val)).map attrF = _; rw [hlt2, cond_false]
        generalize acc.map attrF = Z at hchk h00 hc2 hc3 hfm
        have hrun : rT (Γz e l e0) Δnil AB25 (Sa L O i u X up Z k) [.br true, .is .eql (.bool false), .ok, .el (.str nb :: valQ y), .el (.str nm :: valQ x), .br false, .br false] [0, 3, 4, 5, 10, 11] [] 3 = some (.normal, (Sa L O i u X up Z (IntKind.i64.wrap ((k : Int) + 1))).tmps, Ha u X up Z,
          [ltS nb nm = false, false = false, 0 ≤ (k : Int) ∧ X[(k : Int).toNat]? = some (.str nm :: valQ x), Z[(IntKind.i64.wrap ((Z.length : Int) - 1)).toNat]? = some (.str nb :: valQ y),
            0 ≤ IntKind.i64.wrap ((Z.length : Int) - 1) ∧ IntKind.i64.wrap ((Z.length : Int) - 1) < (Z.length : Int), Value.bool ((Z.length : Int) == 0) = .bool false, decide ((k : Int) < (X.length : Int)) = true]) := by kernel_rfl
        refine tr_run hΓ Δnil_ok hrun ⟨hlt2, rfl, hc1, hc2, hc3, h00, hd, trivial⟩ ⟨k + 1, ⟨?_, by omega⟩, by show ats.length - (k + 1) < ats.length - k; omega⟩
        rw [step1 (by omega), hfm]; rfl
  · have hil : k = ats.length := by omega
    subst hil
    rw [List.take_length]
    generalize (normAs ats).map attrF = Y
    have hrun : rT (Γz e l e0) Δnil AB25 (Sa L O i u X up Y ats.length) [.br false] [0, 3, 4, 5, 10, 11] [] 3 = some (.exit 6, (Sa L O i u X up Y ats.length).tmps, Ha u X up Y, [decide ((ats.length : Int) < (X.length : Int)) = false]) := by kernel_rfl
    exact tr_run hΓ Δnil_ok hrun ⟨by simp; omega, trivial⟩ ⟨rfl, rfl⟩

/-! ### what such entities are -/
theorem dropE_fit (l : List EntD) (u : Uid) : ∀ x ∈ dropE l u, x ∈ l := fun x hx => (List.mem_filter.1 hx).1
theorem putE_mem {l : List EntD} {e x : EntD} (h : x ∈ putE l e) : x ∈ l ∨ x = e := by
  unfold putE at h
  generalize seekI (fun x => ltU x.u e.u) (dropE l e.u) = q at h
  rcases List.mem_append.1 h with h | h
  · exact .inl (dropE_fit _ _ _ (List.mem_of_mem_take h))
  · rcases List.mem_cons.1 h with h | h
    · exact .inr h
    · exact .inl (dropE_fit _ _ _ (List.mem_of_mem_drop h))
theorem putE_length (l : List EntD) (e : EntD) : (putE l e).length ≤ l.length + 1 := by
  unfold putE
  have h1 := seekI_le (fun x => ltU x.u e.u) (dropE l e.u)
  have h2 := dropE_length l e.u
  generalize seekI (fun x => ltU x.u e.u) (dropE l e.u) = q at h1
  simp
  omega
def SrtE (l : List EntD) : Prop := l.Pairwise fun x y => ltU x.u y.u = true
theorem putE_sorted {l : List EntD} (h : SrtE l) (e : EntD) : SrtE (putE l e) := by
  unfold putE
  have hd : SrtE (dropE l e.u) := List.Pairwise.filter _ h
  have hne : ∀ x ∈ dropE l e.u, x.u ≠ e.u := by
    intro x hx he
    have := (List.mem_filter.1 hx).2
    rw [he] at this
    simp at this
  generalize dropE l e.u = d at hd hne
  have hlt := @seekI_lt EntD (fun x => ltU x.u e.u) d
  have hat := @seekI_at EntD (fun x => ltU x.u e.u) d
  generalize seekI (fun x => ltU x.u e.u) d = q at hlt hat
  have h1 : ∀ x ∈ d.take q, ltU x.u e.u = true := by
    intro x hx
    obtain ⟨i, hi⟩ := List.getElem?_of_mem hx
    rw [List.getElem?_take] at hi
    split at hi
    · rename_i hiq; exact hlt hiq hi
    · cases hi
  have h2 : ∀ x ∈ d.drop q, ltU e.u x.u = true := by
    intro x hx
    obtain ⟨i, hi⟩ := List.getElem?_of_mem hx
    rw [List.getElem?_drop] at hi
    have hxm := List.mem_of_getElem? hi
    have hq : q < d.length := by have := (List.getElem?_eq_some_iff.1 hi).1; omega
    have hf := hat (List.getElem?_eq_getElem hq)
    have hqe : ltU e.u (d[q]).u = true := by
      cases hh : ltU e.u (d[q]).u with
      | true => rfl
      | false => exact absurd (ltU_tri hf hh) (hne _ (List.getElem_mem hq))
    rcases Nat.eq_zero_or_pos i with h0 | h0
    · subst h0
      rw [Nat.add_zero, List.getElem?_eq_getElem hq] at hi
      cases hi
      exact hqe
    · obtain ⟨hi', rfl⟩ := List.getElem?_eq_some_iff.1 hi
      exact ltU_trans hqe (List.pairwise_iff_getElem.1 hd q (q + i) hq hi' (by omega))
  show (d.take q ++ e :: d.drop q).Pairwise _
  rw [List.pairwise_append, List.pairwise_cons]
  refine ⟨List.Pairwise.sublist (List.take_sublist _ _) hd, ⟨h2, List.Pairwise.sublist (List.drop_sublist _ _) hd⟩, fun x hx y hy => ?_⟩
  rcases List.mem_cons.1 hy with rfl | hy
  · exact h1 x hx
  · exact ltU_trans (h1 x hx) (h2 y hy)
/-- An entity out of the raw: few parents, few attributes, values such as may be. -/
def FitE (e : EntD) : Prop := e.ps.length ≤ 3 ∧ e.ats.length ≤ 3 ∧ ∀ a ∈ e.ats, valOK a.2
theorem plain_ok {k : Int} {v : Val} (h : PlainK k v) : valOK v := by
  obtain ⟨b, n, s, u, rfl⟩ := h
  exact ⟨by simp, trivial⟩
theorem goodV_ok (r : RawD) : valOK (goodV r) ∧ ∀ x ∈ vLst (goodV r), valOK x := by
  obtain ⟨K, N, s, l⟩ := r
  have h0 := Int.emod_nonneg K (show (5 : Int) ≠ 0 by omega)
  show valOK (if 1 + K % 5 < 5 then _ else _) ∧ ∀ x ∈ vLst (if 1 + K % 5 < 5 then _ else _), valOK x
  split
  · have hp := plainV_K N s (1 + K % 5) ⟨by omega, by omega⟩
    refine ⟨plain_ok hp, ?_⟩
    obtain ⟨b, n, s', u, hv⟩ := hp
    rw [hv]
    intro x hx
    cases hx
  · have hm : ∀ x ∈ setV (partsV K (l.take 8)), valOK x := fun x hx => plain_ok (partsV_plain K _ x (setV_mem _ x hx))
    refine ⟨⟨?_, (valsOK_iff _).2 hm⟩, hm⟩
    have h1 := setV_length (partsV K (l.take 8))
    have h2 : (partsV K (l.take 8)).length ≤ 8 := by simp [partsV]; omega
    omega
theorem cut3_ok (r : RawD) : valOK (cut3 (goodV r)) := by
  refine ⟨by simp; omega, (valsOK_iff _).2 (fun x hx => (goodV_ok r).2 x (List.mem_of_mem_take hx))⟩
theorem entR_fit (e : EntR) : FitE (entR e) := by
  refine ⟨by simp [entR]; omega, by simpa [entR] using atsR_length e 3, fun a ha => ?_⟩
  obtain ⟨x, _, rfl⟩ := List.mem_map.1 ha
  exact cut3_ok _
theorem normE_fit {e : EntD} (h : FitE e) : FitE (normE e) :=
  ⟨Nat.le_trans (normPs_length _) h.1, Nat.le_trans (normAs_length _) h.2.1, fun a ha => h.2.2 a (normAs_mem ha)⟩
theorem FitE.ok {e : EntD} (h : FitE e) : entOK e := ⟨by have := h.1; omega, by have := h.2.1; omega, h.2.2⟩
/-- Entities such as may be: in their order, each once, few. -/
structure FineE (l : List EntD) : Prop where
  srt : SrtE l
  fit : ∀ e ∈ l, FitE e
  len : l.length ≤ 12
theorem goodE_fold (es : List EntR) (i : Nat) (e : EntR) (h : es[i]? = some e) (hi : i < 12) : goodE (es.take (i + 1)) = putE (goodE (es.take i)) (normE (entR e)) := by
  unfold goodE
  rw [List.take_take, List.take_take, Nat.min_eq_right (by omega), Nat.min_eq_right (by omega), List.take_add_one, h]
  simp
theorem goodE_fine (es : List EntR) : FineE (goodE es) := by
  have : ∀ (vs : List EntR) (acc : List EntD) (n : Nat), SrtE acc → (∀ e ∈ acc, FitE e) → acc.length ≤ n → SrtE (vs.foldl (fun out e => putE out (normE (entR e))) acc) ∧ (∀ e ∈ vs.foldl (fun out e => putE out (normE (entR e))) acc, FitE e) ∧ (vs.foldl (fun out e => putE out (normE (entR e))) acc).length ≤ n + vs.length := by
    intro vs
    induction vs with
    | nil => intro acc n h1 h2 h3; exact ⟨h1, h2, by simpa using h3⟩
    | cons v vs ih =>
      intro acc n h1 h2 h3
      have := ih (putE acc (normE (entR v))) (n + 1) (putE_sorted h1 _) (fun e he => by
        rcases putE_mem he with he | rfl
        · exact h2 e he
        · exact normE_fit (entR_fit v)) (by have := putE_length acc (normE (entR v)); omega)
      simp only [List.foldl_cons, List.length_cons]
      exact ⟨this.1, this.2.1, by omega⟩
  obtain ⟨h1, h2, h3⟩ := this (es.take 12) [] 0 List.Pairwise.nil (fun e he => by cases he) (by simp)
  exact ⟨h1, h2, by have h4 : (goodE es).length ≤ 0 + (es.take 12).length := h3; simp at h4; omega⟩

/-! ### Good -/
set_option maxRecDepth 100000 in
theorem round25 (L O : List (List FV)) (es : List EntR) (out : List EntD) (i : Nat) (e : EntR) (hout : out.map entF = O) (hol : out.length ≤ 1000) (hx : L[i]? = some (entRF e)) :
    Tr Try.prog (.block 1 W25) (S25 L O i) (fun e' t => e' = .normal ∧ t = S25 L ((putE out (normE (entR e))).map entF) i) := by
  have hΓ := Γz_ok e out (normE (entR e))
  have hfit := entR_fit e
  refine Tr.block ?_
  have hc : 0 ≤ (i : Int) ∧ L[(i : Int).toNat]? = some (entRF e) := ⟨by omega, by rw [Int.toNat_natCast]; exact hx⟩
  have hfin : ∀ k, Tr Try.prog F25 (Sa L O i (entR e).u ((entR e).ats.map attrF) ((normPs (entR e).ps).map uidF) ((normAs (entR e).ats).map attrF) k) (blkPost 1 (fun e' t => e' = .normal ∧ t = S25 L ((putE out (normE (entR e))).map entF) i)) := by
    intro k
    have hcond : out.length ≤ 1000 ∧ O = out.map entF ∧ [AV.str (entR e).u.1, .str (entR e).u.2, .fz (.sl 2 ((normPs (entR e).ps).map uidF)), .fz (.sl 8 ((normAs (entR e).ats).map attrF))] = (entF (normE (entR e))).map AV.fz := ⟨hol, hout.symm, rfl⟩
    generalize normE (entR e) = e0 at hcond hΓ
    generalize (normPs (entR e).ps).map uidF = up at hcond
    generalize (normAs (entR e).ats).map attrF = az at hcond
    generalize (entR e).ats.map attrF = A
    generalize (entR e).u = u at hcond
    generalize hZ : (putE out e0).map entF = Z
    have hrun : rT (Γz e out e0) Δnil F25 (Sa L O i u A up az k) [] [0, 3, 4] [1, 2] 0 = some (.normal, (S25 L ((putE out e0).map entF) i).tmps, [], [out.length ≤ 1000 ∧ O = out.map entF ∧ [AV.str u.1, .str u.2, .fz (.sl 2 up), .fz (.sl 8 az)] = (entF e0).map AV.fz]) := by kernel_rfl
    rw [hZ] at hrun
    exact tr_run hΓ Δnil_ok hrun ⟨hcond, trivial⟩ ⟨rfl, rfl⟩
  have hpar := parents25 e out (normE (entR e)) L O i (entR e).u (entR e).ps ((entR e).ats.map attrF) (by have := hfit.1; omega) (fun k => attrs25 e out (normE (entR e)) L O i (entR e).u (entR e).ats ((entR e).ps.map uidF) ((normPs (entR e).ps).map uidF) k (by have := hfit.2.1; omega) hfin)
  refine tr_pre hΓ Δnil_ok 2 (hs := [.el (entRF e)]) (ks := [0, 3, 4, 5, 6]) (kills := []) (N := 2) (ts := (Sp0 L O i (entR e).u ((entR e).ps.map uidF) ((entR e).ats.map attrF) []).tmps) (H := Hp (entR e).u ((entR e).ps.map uidF) ((entR e).ats.map attrF) []) (cs := [(entRF e).map AV.fz = (entRF e).map AV.fz, 0 ≤ (i : Int) ∧ L[(i : Int).toNat]? = some (entRF e)]) (by kernel_rfl) ⟨rfl, hc, trivial⟩ hpar

set_option maxRecDepth 100000 in
theorem c25 (es : List EntR) : PureAt Try.prog 25 [.fz (.sl 5 (es.map entRF))] (.fz (.sl 4 ((goodE es).map entF))) false := by
  have hΓ := Γz_ok ⟨0, 0, [], [], []⟩ [] zeroE
  have hXl : (es.map entRF).length = es.length := by simp
  have hXg : ∀ (j : Nat) x, es[j]? = some x → (es.map entRF)[j]? = some (entRF x) := fun j x h => by rw [List.getElem?_map, h]; rfl
  generalize es.map entRF = L at hXl hXg
  refine pureAt_of_fun (fun_of_tr Try.func25 (c := bodyOf Try.f25) (by kernel_rfl) (Nat.le_refl _) ?_)
  refine tr_pre hΓ Δnil_ok 2 (hs := []) (ks := [0, 3]) (kills := [1]) (N := 0) (ts := sp 128 [(0, .fz (.sl 5 L)), (3, .fz (.sl 4 []))]) (H := []) (cs := []) (by kernel_rfl) trivial ?_
  have htake : goodE (es.take 12) = goodE es := by unfold goodE; rw [List.take_take]; simp
  refine Tr.rangeAt (fun (i : Nat) t => t = S25 L ((goodE (es.take i)).map entF) i ∧ i ≤ min es.length 12) (fun i => min es.length 12 - i) (fun t => ∃ i, t = S25 L ((goodE es).map entF) i) (id := 0) (A := cl (cl L25)) (B := B25) (C := cr L25) (by kernel_rfl)
    (tr_run hΓ Δnil_ok (hs := []) (ks := [0, 3, 4]) (kills := []) (N := 0) (e := .normal) (ts := (S25 L [] 0).tmps) (H := []) (cs := []) (by kernel_rfl) trivial ⟨rfl, 0, rfl, Nat.zero_le _⟩) ?_ ?_
  · rintro i t ⟨rfl, hi⟩
    by_cases hlt : i < es.length
    · have hd := boolT (show (i : Int) < (L.length : Int) by omega)
      by_cases h12 : i < 12
      · have hd12 := boolT (show (i : Int) < 12 by omega)
        have hx : es[i]? = some es[i] := List.getElem?_eq_getElem hlt
        generalize es[i] = e at hx
        have hfold := goodE_fold es i e hx h12
        have hol := (goodE_fine (es.take i)).len
        generalize goodE (es.take i) = out at hfold hol
        generalize hO : out.map entF = O
        have hround := round25 L O es out i e hO (by omega) (hXg i e hx)
        rw [← hfold] at hround
        generalize hZ : (goodE (es.take (i + 1))).map entF = Z at hround
        refine tr_pre hΓ Δnil_ok 1 (hs := [.is .lss (.bool true), .is .lss (.bool true)]) (ks := [0, 3, 4]) (kills := []) (N := 0) (ts := (S25 L O i).tmps) (H := []) (cs := [Value.bool (decide ((i : Int) < 12)) = .bool true, Value.bool (decide ((i : Int) < (L.length : Int))) = .bool true]) (by kernel_rfl) ⟨hd12, hd, trivial⟩ ?_
        refine Tr.seq (R1 := fun e t => e = .normal ∧ t = S25 L Z i) hround (fun t h _ => ?_) (fun e t he h => absurd h.1 he)
        rw [h.2]
        have hrun : rT (Γz ⟨0, 0, [], [], []⟩ [] zeroE) Δnil (cr (cr B25)) (S25 L Z i) [] [0, 3, 4] [] 0 = some (.normal, (S25 L Z (IntKind.i64.wrap ((i : Int) + 1))).tmps, [], []) := by kernel_rfl
        refine tr_run hΓ Δnil_ok hrun trivial ⟨i + 1, ⟨?_, by omega⟩, by show min es.length 12 - (i + 1) < min es.length 12 - i; omega⟩
        rw [step1 (by omega), hZ]; rfl
      · have hi12 : i = 12 := by omega
        subst hi12
        rw [htake]
        generalize (goodE es).map entF = O
        have hrun : rT (Γz ⟨0, 0, [], [], []⟩ [] zeroE) Δnil B25 (S25 L O (12 : Nat)) [.is .lss (.bool true), .is .lss (.bool false)] [0, 3, 4] [] 0 = some (.exit 0, (S25 L O (12 : Nat)).tmps, [], [Value.bool (decide (((12 : Nat) : Int) < 12)) = .bool false, Value.bool (decide (((12 : Nat) : Int) < (L.length : Int))) = .bool true]) := by kernel_rfl
        exact tr_run hΓ Δnil_ok hrun ⟨by simp, hd, trivial⟩ ⟨rfl, _, rfl⟩
    · have hil : i = es.length := by omega
      have hd := boolF (show ¬ (i : Int) < (L.length : Int) by omega)
      rw [hil, List.take_length, ← hil]
      generalize (goodE es).map entF = O
      have hrun : rT (Γz ⟨0, 0, [], [], []⟩ [] zeroE) Δnil B25 (S25 L O i) [.is .lss (.bool false)] [0, 3, 4] [] 0 = some (.exit 0, (S25 L O i).tmps, [], [Value.bool (decide ((i : Int) < (L.length : Int))) = .bool false]) := by kernel_rfl
      exact tr_run hΓ Δnil_ok hrun ⟨hd, trivial⟩ ⟨rfl, _, rfl⟩
  · rintro t ⟨i, rfl⟩ _
    generalize (goodE es).map entF = O
    have hrun : rT (Γz ⟨0, 0, [], [], []⟩ [] zeroE) Δnil (cr L25) (S25 L O i) [] [2] [] 0 = some (.ret, sp 128 [(2, .fz (.sl 4 O))], [], []) := by kernel_rfl
    exact tr_run hΓ Δnil_ok hrun trivial ⟨.fz (.sl 4 O), by kernel_rfl, by show snapR _ _ = _; kernel_rfl⟩
theorem goodE_ents (es : List EntR) : EntsOK ((goodE es).map entF) := ⟨goodE es, rfl, fun e he => ((goodE_fine es).fit e he).ok, by have := (goodE_fine es).len; omega⟩
theorem FineE.few {l : List EntD} (h : FineE l) : FewPs (l.map entF) := by
  unfold FewPs
  have : ∀ l : List EntD, (∀ e ∈ l, FitE e) → ((l.map entF).map fun x => (slAt x 2).length).sum ≤ l.length * 3 := by
    intro l
    induction l with
    | nil => intro _; simp
    | cons e r ih =>
      intro hl
      have h1 := ih (fun e he => hl e (List.mem_cons_of_mem _ he))
      have h2 := (hl e List.mem_cons_self).1
      have h3 : (slAt (entF e) 2).length = e.ps.length := by show (e.ps.map uidF).length = _; simp
      simp only [List.map_cons, List.sum_cons, h3, List.length_cons]
      omega
  have h1 := this l h.fit
  have h2 := h.len
  omega
theorem FineE.srtF {l : List EntD} (h : FineE l) : Srt (l.map entF) := by
  unfold Srt
  rw [List.pairwise_map]
  exact h.srt
end Go.Proofs.Ai
