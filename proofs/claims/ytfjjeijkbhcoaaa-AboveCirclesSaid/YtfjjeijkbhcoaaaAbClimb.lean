/- Contracts: what is met on the way up from uids. -/
import Derived.Test.YtfjjeijkbhcoaaaAbAt
set_option linter.unusedVariables false
set_option linter.unusedSimpArgs false
namespace Go.Proofs.Ai
open Go

/-! ### sets of uids as maps -/
def entryOf (p : Uid × Nat) : MapEntry := { key := .agg #[.string p.1.1, .string p.1.2], val := .bool true, born := p.2 }
def setEs (ks : List Uid) : Array MapEntry := (ks.zipIdx.map entryOf).toArray
theorem setEs_like (ks : List Uid) : SetLike (setEs ks) := by
  intro e he
  simp only [setEs, List.mem_map] at he
  obtain ⟨p, _, rfl⟩ := he
  exact ⟨⟨_, _, rfl⟩, rfl⟩
theorem hasKey_set (ks : List Uid) (a b : ByteArray) : hasKey (setEs ks) a b = ks.contains (a, b) := by
  unfold hasKey setEs
  simp only [List.any_map]
  have : ∀ (ks : List Uid) (n : Nat), (ks.zipIdx n).any ((fun e => match pairKey e.key with | some (c, d) => a == c && b == d | none => false) ∘ entryOf) = ks.contains (a, b) := by
    intro ks
    induction ks with
    | nil => intro n; rfl
    | cons k ks ih =>
      intro n
      rw [List.zipIdx_cons, List.any_cons, ih, List.contains_cons]
      rfl
  exact this ks 0
theorem putKey_set (ks : List Uid) (a b : ByteArray) (h : ks.contains (a, b) = false) : putKey (setEs ks) ks.length a b = setEs (ks ++ [(a, b)]) ∧ putClock (setEs ks) ks.length a b = (ks ++ [(a, b)]).length := by
  unfold putKey putClock
  rw [hasKey_set, h]
  refine ⟨?_, by simp⟩
  simp only [Bool.false_eq_true, if_false, setEs]
  rw [List.zipIdx_append]
  simp [entryOf]

/-! ### the way up -/
def climbM (ps : Uid → List Uid) : Nat → List Uid → List Uid → List Uid
  | 0, _, met => met
  | _ + 1, [], met => met
  | f + 1, u :: st, met => bif met.contains u then climbM ps f st met else climbM ps f ((ps u).reverse ++ st) (met ++ [u])
def psR (els : List (List FV)) (u : Uid) : List Uid := (slAt (entAt els u) 2).map uidOf
def fuelR (els : List (List FV)) (fr : List Uid) : Nat := fr.length + (els.map fun x => (slAt x 2).length).sum
def climbS (els : List (List FV)) (fr : List Uid) : List Uid := climbM (psR els) (fuelR els fr) fr.reverse []

def potE (met : List Uid) (x : List FV) : Nat := if met.contains (uidOf x) then 0 else (slAt x 2).length
def pot (els : List (List FV)) (st met : List Uid) : Nat := st.length + (els.map (potE met)).sum

theorem potE_mono (met : List Uid) (u : Uid) (x : List FV) : potE (met ++ [u]) x ≤ potE met x := by
  unfold potE
  by_cases h : met.contains (uidOf x) = true
  · have : (met ++ [u]).contains (uidOf x) = true := by simp only [List.contains_eq_mem, decide_eq_true_eq, List.mem_append] at h ⊢; exact .inl h
    rw [if_pos h, if_pos this]; exact Nat.le_refl _
  · rw [if_neg h]; split <;> omega
theorem sum_mono (met : List Uid) (u : Uid) : ∀ els : List (List FV), (els.map (potE (met ++ [u]))).sum ≤ (els.map (potE met)).sum
  | [] => Nat.le_refl _
  | x :: r => by simp only [List.map_cons, List.sum_cons]; have := potE_mono met u x; have := sum_mono met u r; omega
theorem sum_drop (met : List Uid) (u : Uid) (hm : met.contains u = false) : ∀ (els : List (List FV)) (x : List FV), x ∈ els → uidOf x = u → (els.map (potE (met ++ [u]))).sum + (slAt x 2).length ≤ (els.map (potE met)).sum
  | [], x, h, _ => by cases h
  | y :: r, x, h, hx => by
    simp only [List.map_cons, List.sum_cons]
    cases h with
    | head =>
      have h1 : potE (met ++ [u]) y = 0 := by
        unfold potE
        rw [if_pos]
        rw [hx]
        simp
      have h2 : potE met y = (slAt y 2).length := by
        unfold potE
        rw [hx, hm]
        rfl
      have := sum_mono met u r
      omega
    | tail _ h =>
      have := sum_drop met u hm r x h hx
      have := potE_mono met u y
      omega
theorem entAt_found {els : List (List FV)} {u : Uid} (h : foundAt els u = true) : entAt els u ∈ els ∧ uidOf (entAt els u) = u := by
  unfold foundAt at h
  split at h
  · rename_i x hx
    have hf : foundAt els u = true := by unfold foundAt; rw [hx]; exact h
    have : entAt els u = x := by unfold entAt; rw [if_pos hf, List.getD_eq_getElem?_getD, hx]; rfl
    rw [this]
    simp only [Bool.and_eq_true, beq_iff_eq] at h
    exact ⟨List.mem_of_getElem? hx, Prod.ext h.1 h.2⟩
  · cases h
theorem psR_not {els : List (List FV)} {u : Uid} (h : foundAt els u = false) : psR els u = [] := by
  unfold psR entAt
  rw [h]
  rfl
theorem pot_new (els : List (List FV)) (u : Uid) (st met : List Uid) (hm : met.contains u = false) : pot els ((psR els u).reverse ++ st) (met ++ [u]) < pot els (u :: st) met := by
  unfold pot
  simp only [List.length_append, List.length_reverse, List.length_cons]
  cases h : foundAt els u with
  | false => rw [psR_not h]; have := sum_mono met u els; simp; omega
  | true =>
    obtain ⟨h1, h2⟩ := entAt_found h
    have := sum_drop met u hm els _ h1 h2
    have e : (psR els u).length = (slAt (entAt els u) 2).length := by simp [psR]
    omega
theorem pot_old (els : List (List FV)) (u : Uid) (st met : List Uid) : pot els st met < pot els (u :: st) met := by simp [pot]

/-- Parents are uids. -/
theorem slAt_ps {els : List (List FV)} (h : EntsOK els) (u : Uid) : slAt (entAt els u) 2 = (psR els u).map uidF ∧ (psR els u).length ≤ 1000000 := by
  obtain ⟨l, rfl, hl, _⟩ := h
  have : ∃ e, entAt (l.map entF) u = entF e ∧ entOK e := by
    cases hf : foundAt (l.map entF) u with
    | false => exact ⟨zeroE, by unfold entAt; rw [hf]; rfl, by simp [entOK, zeroE]⟩
    | true =>
      obtain ⟨e, he, q⟩ := List.mem_map.1 (entAt_found hf).1
      exact ⟨e, q.symm, hl e he⟩
  obtain ⟨e, he, ho⟩ := this
  have hs : slAt (entF e) 2 = e.ps.map uidF := rfl
  have hp : psR (l.map entF) u = e.ps := by
    unfold psR
    rw [he, hs, List.map_map]
    have : (uidOf ∘ uidF) = id := by funext ⟨a, b⟩; rfl
    rw [this, List.map_id]
  rw [he, hs, hp]
  exact ⟨rfl, ho.1⟩
theorem pot_bound {els : List (List FV)} (h : EntsOK els) : (els.map fun x => (slAt x 2).length).sum ≤ 1000000 * 1000000 := by
  obtain ⟨l, rfl, hl, hn⟩ := h
  have : ∀ l : List EntD, (∀ e ∈ l, entOK e) → ((l.map entF).map fun x => (slAt x 2).length).sum ≤ l.length * 1000000 := by
    intro l
    induction l with
    | nil => intro _; simp
    | cons e r ih =>
      intro hl
      have h1 := ih (fun e he => hl e (List.mem_cons_of_mem _ he))
      have h2 := (hl e List.mem_cons_self).1
      have h3 : (slAt (entF e) 2).length = e.ps.length := by show (e.ps.map uidF).length = _; simp
      simp only [List.map_cons, List.sum_cons, h3, List.length_cons]
      omega
  exact Nat.le_trans (this l hl) (Nat.mul_le_mul_right _ hn)

def Γc : PureT := fun f xs => match f, xs with
  | 31, [.fz (.sl 4 els), .agg [.fz (.sc (.string a)), .fz (.sc (.string b))]] => some (entRes els (a, b), false, [EntsOK els])
  | _, _ => none
theorem Γc_ok : PureOK Try.prog Γc := by
  intro f xs r fresh c hg hc
  unfold Γc at hg
  split at hg
  · cases hg; exact c31 _ (_, _) hc.1
  · cases hg

noncomputable abbrev L80 : Code := post 3 (bodyOf Try.f80)
noncomputable abbrev B80 : Code := cb (cb (cl L80))
abbrev S80 (els left : List (List FV)) (es : Array MapEntry) (c : Nat) : St := stOf (sp 44 [(0, .fz (.sl 4 els)), (5, .ob 0), (6, .own 1)]) [some (.obj (.map es c)), some (.row 25 2 left)] 0

set_option maxRecDepth 100000 in
theorem climb_tr (els : List (List FV)) (fr : List Uid) (h : EntsOK els) (hfr : fr.length ≤ 1000000) :
    FunTr Try.prog 80 [.fz (.sl 4 els), .fz (.sl 2 (fr.map uidF))] [] 0 (fun r H => ∃ b, r = .ob b ∧ getH H b = some (.obj (.map (setEs (climbS els fr)) (climbS els fr).length))) := by
  have hsz : szB 25 ≤ 100 := by decide +kernel
  have hbound := pot_bound h
  refine fun_of_tr Try.func80 (c := bodyOf Try.f80) (by kernel_rfl) (Nat.le_refl _) ?_
  refine tr_pre Γc_ok Δcl_ok 3 (hs := []) (ks := [0, 5, 6]) (kills := []) (N := 2) (ts := (S80 els (fr.map uidF) #[] 0).tmps) (H := [some (.obj (.map #[] 0)), some (.row 25 2 (fr.map uidF))]) (cs := [(fr.map uidF).length ≤ 1000000]) (by kernel_rfl) ⟨by simpa using hfr, trivial⟩ ?_
  have hpot0 : pot els fr.reverse [] = fuelR els fr := by
    unfold pot fuelR
    rw [List.length_reverse]
    congr 2
  refine Tr.loopAt (fun (k : List Uid × List Uid) s => s = S80 els (k.1.reverse.map uidF) (setEs k.2) k.2.length ∧ pot els k.1 k.2 ≤ fuelR els fr ∧ ∃ f, pot els k.1 k.2 ≤ f ∧ climbM (psR els) f k.1 k.2 = climbS els fr) (fun k => pot els k.1 k.2)
    (fun s => ∃ left, s = S80 els left (setEs (climbS els fr)) (climbS els fr).length) (id := 0) (B := B80) (C := cr L80) (by kernel_rfl) (i := (fr.reverse, [])) ⟨by rw [List.reverse_reverse]; rfl, by rw [hpot0]; exact Nat.le_refl _, fuelR els fr, by rw [hpot0]; exact Nat.le_refl _, rfl⟩ ?_ ?_
  · rintro ⟨st, met⟩ s ⟨rfl, hp, f, hf, hres⟩
    simp only at hp hf hres
    cases st with
    | nil =>
      have hm : climbS els fr = met := by rw [← hres]; cases f <;> rfl
      have hrun : rT Γc Δcl B80 (S80 els [] (setEs met) met.length) [.br false] [0, 5, 6] [] 2 = some (.exit 0, (S80 els [] (setEs met) met.length).tmps, [some (.obj (.map (setEs met) met.length)), some (.row 25 2 [])], [decide ((([] : List (List FV)).length : Int) > 0) = false]) := by kernel_rfl
      refine tr_run Γc_ok Δcl_ok hrun ⟨by decide, trivial⟩ ⟨rfl, [], ?_⟩
      rw [hm]
      rfl
    | cons u st =>
      have hleft : ((u :: st).reverse.map uidF) = st.reverse.map uidF ++ [uidF u] := by simp
      have hlen : ((u :: st).reverse.map uidF).length = st.length + 1 := by simp
      have hstb : st.length + 1 ≤ 2000000000000 := by
        have : (u :: st).length ≤ pot els (u :: st) met := by unfold pot; omega
        simp only [List.length_cons] at this
        have : fuelR els fr ≤ 1000000 + 1000000 * 1000000 := by unfold fuelR; omega
        omega
      generalize hL : (u :: st).reverse.map uidF = left at hleft hlen
      have hw : IntKind.i64.wrap ((left.length : Int) - 1) = (st.length : Int) := by rw [IntWalk.i64_in _ (by omega)]; omega
      have hget : left[st.length]? = some (uidF u) := by rw [hleft]; simp
      have htake : left.take st.length = st.reverse.map uidF := by
        rw [hleft]
        have : (st.reverse.map uidF).length = st.length := by simp
        rw [← this, List.take_left]
      have hl0 : decide ((left.length : Int) > 0) = true := by rw [decide_eq_true_iff]; omega
      have hc1 : 0 ≤ IntKind.i64.wrap ((left.length : Int) - 1) ∧ IntKind.i64.wrap ((left.length : Int) - 1) < (left.length : Int) := by rw [hw]; omega
      have hc2 : left[(IntKind.i64.wrap ((left.length : Int) - 1)).toNat]? = some [FV.str u.1, FV.str u.2] := by rw [hw, Int.toNat_natCast]; exact hget
      have hc3 : 0 ≤ IntKind.i64.wrap ((left.length : Int) - 1) ∧ IntKind.i64.wrap ((left.length : Int) - 1) ≤ (left.length : Int) := by rw [hw]; omega
      cases f with
      | zero => have := pot_old els u st met; omega
      | succ f =>
        simp only [climbM] at hres
        cases hmem : met.contains u with
        | true =>
          rw [hmem, cond_true] at hres
          have hrun : rT Γc Δcl B80 (S80 els left (setEs met) met.length) [.br true, .ok, .el [.str u.1, .str u.2], .cut, .ok, .br true] [0, 5, 6] [] 2 =
              some (.normal, (S80 els left (setEs met) met.length).tmps, [some (.obj (.map (setEs met) met.length)), some (.row 25 2 (left.take (IntKind.i64.wrap ((left.length : Int) - 1)).toNat))],
                [hasKey (setEs met) u.1 u.2 = true, SetLike (setEs met), 0 ≤ IntKind.i64.wrap ((left.length : Int) - 1) ∧ IntKind.i64.wrap ((left.length : Int) - 1) ≤ (left.length : Int),
                  left[(IntKind.i64.wrap ((left.length : Int) - 1)).toNat]? = some [FV.str u.1, FV.str u.2], 0 ≤ IntKind.i64.wrap ((left.length : Int) - 1) ∧ IntKind.i64.wrap ((left.length : Int) - 1) < (left.length : Int), decide ((left.length : Int) > 0) = true]) := by kernel_rfl
          refine tr_run Γc_ok Δcl_ok hrun ⟨by rw [hasKey_set]; exact hmem, setEs_like _, hc3, hc2, hc1, hl0, trivial⟩ ?_
          have := pot_old els u st met
          refine ⟨(st, met), ⟨?_, by show pot els st met ≤ _; omega, f, by show pot els st met ≤ f; omega, hres⟩, this⟩
          rw [hw, Int.toNat_natCast, htake]
          rfl
        | false =>
          rw [hmem, cond_false] at hres
          have hpn := pot_new els u st met hmem
          obtain ⟨hk1, hk2⟩ := putKey_set met u.1 u.2 hmem
          obtain ⟨hs1, hs2⟩ := slAt_ps h u
          cases hfound : foundAt els u with
          | true =>
            have hrun : rT Γc Δcl B80 (S80 els left (setEs met) met.length) [.br true, .ok, .el [.str u.1, .str u.2], .cut, .ok, .br false, .br true, .ok] [0, 5, 6] [] 2 =
                some (.normal, (S80 els left (setEs met) met.length).tmps, [some (.obj (.map (putKey (setEs met) met.length u.1 u.2) (putClock (setEs met) met.length u.1 u.2))), some (.row 25 2 (left.take (IntKind.i64.wrap ((left.length : Int) - 1)).toNat ++ slAt (entAt els (u.1, u.2)) 2))],
                  [((left.take (IntKind.i64.wrap ((left.length : Int) - 1)).toNat).length + (slAt (entAt els (u.1, u.2)) 2).length) * szB 25 ≤ 140737488355328 ∧ (left.take (IntKind.i64.wrap ((left.length : Int) - 1)).toNat).length + (slAt (entAt els (u.1, u.2)) 2).length ≤ 140737488355328,
                    foundAt els (u.1, u.2) = true, EntsOK els, SetLike (setEs met), hasKey (setEs met) u.1 u.2 = false, SetLike (setEs met), 0 ≤ IntKind.i64.wrap ((left.length : Int) - 1) ∧ IntKind.i64.wrap ((left.length : Int) - 1) ≤ (left.length : Int),
                    left[(IntKind.i64.wrap ((left.length : Int) - 1)).toNat]? = some [FV.str u.1, FV.str u.2], 0 ≤ IntKind.i64.wrap ((left.length : Int) - 1) ∧ IntKind.i64.wrap ((left.length : Int) - 1) < (left.length : Int), decide ((left.length : Int) > 0) = true]) := by kernel_rfl
            have hsl : (slAt (entAt els (u.1, u.2)) 2).length = (psR els u).length := by show (slAt (entAt els u) 2).length = _; rw [hs1]; simp
            refine tr_run Γc_ok Δcl_ok hrun ⟨?_, hfound, h, setEs_like _, by rw [hasKey_set]; exact hmem, setEs_like _, hc3, hc2, hc1, hl0, trivial⟩ ?_
            · rw [hw, Int.toNat_natCast, htake, hsl]
              have e : (st.reverse.map uidF).length = st.length := by simp
              rw [e]
              have : (st.length + (psR els u).length) * szB 25 ≤ (2000000000000 - 1 + 1000000) * 100 / 2 * 2 := by
                have h1 : st.length + (psR els u).length ≤ 1000001000000 := by
                  have : ((psR els u).reverse ++ st).length ≤ pot els ((psR els u).reverse ++ st) (met ++ [u]) := by unfold pot; omega
                  simp only [List.length_append, List.length_reverse] at this
                  have : fuelR els fr ≤ 1000000 + 1000000 * 1000000 := by unfold fuelR; omega
                  omega
                have := Nat.mul_le_mul h1 hsz
                omega
              have h1 : st.length + (psR els u).length ≤ 1000001000000 := by
                have : ((psR els u).reverse ++ st).length ≤ pot els ((psR els u).reverse ++ st) (met ++ [u]) := by unfold pot; omega
                simp only [List.length_append, List.length_reverse] at this
                have : fuelR els fr ≤ 1000000 + 1000000 * 1000000 := by unfold fuelR; omega
                omega
              have h2 := Nat.mul_le_mul h1 hsz
              omega
            · refine ⟨((psR els u).reverse ++ st, met ++ [u]), ⟨?_, by show pot els ((psR els u).reverse ++ st) (met ++ [u]) ≤ _; omega, f, by show pot els ((psR els u).reverse ++ st) (met ++ [u]) ≤ f; omega, hres⟩, hpn⟩
              rw [hw, Int.toNat_natCast, htake, hk1, hk2]
              have e2 : ((psR els u).reverse ++ st).reverse.map uidF = st.reverse.map uidF ++ slAt (entAt els (u.1, u.2)) 2 := by
                show _ = st.reverse.map uidF ++ slAt (entAt els u) 2
                rw [hs1]; simp
              rw [e2]
              rfl
          | false =>
            have hrun : rT Γc Δcl B80 (S80 els left (setEs met) met.length) [.br true, .ok, .el [.str u.1, .str u.2], .cut, .ok, .br false, .br false] [0, 5, 6] [] 2 =
                some (.normal, (S80 els left (setEs met) met.length).tmps, [some (.obj (.map (putKey (setEs met) met.length u.1 u.2) (putClock (setEs met) met.length u.1 u.2))), some (.row 25 2 (left.take (IntKind.i64.wrap ((left.length : Int) - 1)).toNat))],
                  [foundAt els (u.1, u.2) = false, EntsOK els, SetLike (setEs met), hasKey (setEs met) u.1 u.2 = false, SetLike (setEs met), 0 ≤ IntKind.i64.wrap ((left.length : Int) - 1) ∧ IntKind.i64.wrap ((left.length : Int) - 1) ≤ (left.length : Int),
                    left[(IntKind.i64.wrap ((left.length : Int) - 1)).toNat]? = some [FV.str u.1, FV.str u.2], 0 ≤ IntKind.i64.wrap ((left.length : Int) - 1) ∧ IntKind.i64.wrap ((left.length : Int) - 1) < (left.length : Int), decide ((left.length : Int) > 0) = true]) := by kernel_rfl
            refine tr_run Γc_ok Δcl_ok hrun ⟨hfound, h, setEs_like _, by rw [hasKey_set]; exact hmem, setEs_like _, hc3, hc2, hc1, hl0, trivial⟩ ?_
            refine ⟨((psR els u).reverse ++ st, met ++ [u]), ⟨?_, by show pot els ((psR els u).reverse ++ st) (met ++ [u]) ≤ _; omega, f, by show pot els ((psR els u).reverse ++ st) (met ++ [u]) ≤ f; omega, hres⟩, hpn⟩
            rw [hw, Int.toNat_natCast, htake, hk1, hk2, psR_not hfound]
            rfl
  · rintro t ⟨left, rfl⟩ _
    have hrun : rT Γc Δcl (cr L80) (S80 els left (setEs (climbS els fr)) (climbS els fr).length) [] [4] [] 2 = some (.ret, sp 44 [(4, .ob 0)], [some (.obj (.map (setEs (climbS els fr)) (climbS els fr).length)), some (.row 25 2 left)], []) := by kernel_rfl
    exact tr_run Γc_ok Δcl_ok hrun trivial ⟨.ob 0, by kernel_rfl, 0, rfl, rfl⟩
theorem c80 (els : List (List FV)) (fr : List Uid) (h : EntsOK els) (hfr : fr.length ≤ 1000000) : PureAt Try.prog 80 [.fz (.sl 4 els), .fz (.sl 2 (fr.map uidF))] (.fz (.mp (setEs (climbS els fr)) (climbS els fr).length)) true := pureAt_of_map (climb_tr els fr h hfr)

/-! ### In -/
def UidRow (fr : List (List FV)) : Prop := (∃ l : List Uid, fr = l.map uidF) ∧ fr.length ≤ 1000000
theorem uidOf_map (l : List Uid) : (l.map uidF).map uidOf = l := by
  rw [List.map_map]
  have : (uidOf ∘ uidF) = id := by funext ⟨a, b⟩; rfl
  rw [this, List.map_id]
def Γi : PureT := fun f xs => match f, xs with
  | 80, [.fz (.sl 4 els), .fz (.sl 2 fr)] => some (.fz (.mp (setEs (climbS els (fr.map uidOf))) (climbS els (fr.map uidOf)).length), true, [EntsOK els, UidRow fr])
  | _, _ => none
theorem Γi_ok : PureOK Try.prog Γi := by
  intro f xs r fresh c hg hc
  unfold Γi at hg
  split at hg
  · cases hg
    obtain ⟨h1, ⟨⟨l, rfl⟩, h2⟩, _⟩ := hc
    rw [uidOf_map]
    exact c80 _ l h1 (by simpa using h2)
  · cases hg
def inB (els : List (List FV)) (u v : Uid) : Bool := (climbS els [u]).contains v
theorem c28 (els : List (List FV)) (u v : Uid) (h : EntsOK els) : PureAt Try.prog 28 [.fz (.sl 4 els), uidV u, uidV v] (.boo (inB els u v)) true := by
  refine PureAt.scalar ?_
  have hrun : callC Γi Δnil 28 [.fz (.sl 4 els), uidV u, uidV v] [] = some (.boo (hasKey (setEs (climbS els [(u.1, u.2)])) v.1 v.2), true, [SetLike (setEs (climbS els [(u.1, u.2)])), EntsOK els, UidRow [uidF u]]) := by kernel_rfl
  rw [hasKey_set] at hrun
  exact pure_run Γi_ok Δnil_ok hrun ⟨setEs_like _, h, ⟨⟨[u], rfl⟩, by simp⟩, trivial⟩
end Go.Proofs.Ai
