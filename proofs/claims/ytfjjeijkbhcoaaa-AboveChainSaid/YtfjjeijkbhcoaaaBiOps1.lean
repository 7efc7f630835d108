/- The abstract machine, 7: operations: operands, cells, loads, addresses. -/
import Derived.Test.YtfjjeijkbhcoaaaBiRel4
set_option linter.unusedVariables false
set_option linter.unusedSimpArgs false
namespace Go.Proofs.Ai
open Go

theorem add_none (g o j : Nat) : (⟨g, o, none⟩ : Addr).add j = ⟨g, o + j, none⟩ := by unfold Addr.add; split <;> simp_all
theorem add_zero (a : Addr) : a.add 0 = a := by simp [Addr.add]

structure Ctx (X : Nat → Prop) (μ : Nat → Value) (H : AHeap) (w : World) (ts : List AV) (a : Act) : Prop where
  rel : Rel X μ H w
  tmps : ∀ t, Rep μ H w (Fz X μ H w) (getT ts t) (a.tmps.getD t undef)

section
variable {μ : Nat → Value} {H : AHeap} {w : World} {ok : Nat → Prop}

theorem rep_sc {v : Value} (h : v.oneCell' = true) : Rep μ H w ok (AV.sc v) v := .fz (.sc h)
theorem rep_sc_inv {v u : Value} (h : Rep μ H w ok (.fz (.sc v)) u) : u = v ∧ v.oneCell' = true := by
  cases h with
  | fz h => cases h with
    | sc h => exact ⟨rfl, h⟩
  | dead hx => simp [refOf] at hx
theorem rep_scs (cs : List Value) (h : cs.all (·.oneCell') = true) : Rep μ H w ok (.agg (cs.map AV.sc)) (.agg cs.toArray) := by
  refine .agg (by simp) (fun i x hx => ?_) (fun i hi => ?_)
  · rw [List.getElem?_map] at hx
    obtain ⟨v, hv, rfl⟩ := Option.map_eq_some_iff.1 hx
    have : cs.toArray.getD i undef = v := by simp [Array.getD_eq_getD_getElem?, hv]
    rw [this]
    exact rep_sc (List.all_eq_true.1 h v (List.mem_of_getElem? hv))
  · have hi' : i < cs.length := by simpa using hi
    have : cs.toArray.getD i undef = cs[i] := by simp [Array.getD_eq_getD_getElem?, hi']
    rw [this]
    exact List.all_eq_true.1 h _ (List.getElem_mem hi')
theorem rep_ofValue (v : Value) : Rep μ H w ok (ofValue v) v := by
  cases v with
  | agg cs =>
    simp only [ofValue]
    split
    · rename_i h; simpa using rep_scs cs.toList h
    · exact .junk
  | tuple vs => exact .junk
  | _ => exact rep_sc rfl

theorem Rep.one {x : AV} {u : Value} (h : Rep μ H w ok x u) (h1 : Ai.one x = true) : u.oneCell' = true := by
  cases h with
  | fz h => exact h.one
  | own _ _ h => exact h
  | ob _ _ h => exact h
  | dead _ _ _ h => exact h
  | agg | tup | junk => simp [Ai.one] at h1
  | _ => rfl

theorem ones_get {l : List AV} (h : ones l = true) {i : Nat} {x : AV} (hx : l[i]? = some x) : Ai.one x = true := List.all_eq_true.1 h x (List.mem_of_getElem? hx)

/-- A value's cells. -/
theorem rep_cells {x : AV} {u : Value} (h : Rep μ H w ok x u) (h1 : ones (cellsA x) = true) : u.cells.size = (cellsA x).length ∧ (∀ (i : Nat) (y : AV), (cellsA x)[i]? = some y → Rep μ H w ok y (u.cells.getD i undef)) ∧ ∀ i, i < u.cells.size → (u.cells.getD i undef).oneCell' = true := by
  have plain : Ai.one x = true → cellsA x = [x] → u.cells.size = (cellsA x).length ∧ (∀ (i : Nat) (y : AV), (cellsA x)[i]? = some y → Rep μ H w ok y (u.cells.getD i undef)) ∧ ∀ i, i < u.cells.size → (u.cells.getD i undef).oneCell' = true := by
    intro ho hc
    have hu := h.one ho
    have e : u.cells = #[u] := by cases u <;> simp [Value.oneCell'] at hu <;> rfl
    rw [e, hc]
    refine ⟨rfl, fun i y hy => ?_, fun i hi => ?_⟩
    · cases i with
      | zero => simp at hy; subst hy; simpa using h
      | succ i => simp at hy
    · obtain rfl : i = 0 := by simpa using hi
      simpa using hu
  cases x with
  | agg l =>
    cases h with
    | agg hl h h1' => exact ⟨hl, h, h1'⟩
    | dead hx => simp [refOf] at hx
  | tup l => simp [cellsA, ones, Ai.one] at h1
  | junk => simp [cellsA, ones, Ai.one] at h1
  | _ => exact plain rfl rfl
end

section
variable {X : Nat → Prop} {μ : Nat → Value} {H : AHeap} {w : World} {ts : List AV} {a : Act}
theorem Ctx.eval (h : Ctx X μ H w ts a) (x : Operand) : Rep μ H w (Fz X μ H w) (evalA ts x) (a.eval x) := by
  cases x with
  | tmp t => exact h.tmps t
  | const v => exact rep_ofValue v
  | global g => exact .junk
  | func f => exact .fn rfl rfl (fun i x hx => by simp at hx) (fun i x hx => by simp at hx)
end

/-! ### runs -/
section
variable {P : Program} {w : World}
theorem szOf_spec {t : TypeId} {k : Nat} (h : szOf P t = some k) : ∃ i, P.info? t = some i ∧ i.size = k := by
  unfold szOf at h
  obtain ⟨i, hi, e⟩ := Option.map_eq_some_iff.1 h
  exact ⟨i, hi, e⟩
theorem run_szOf {t : TypeId} {k : Nat} (h : szOf P t = some k) (w : World) : (sizeOf t).run P w = .ok k w := by
  obtain ⟨i, hi, rfl⟩ := szOf_spec h
  simp [sizeOf, typeInfo, hi]
theorem run_isAgg {t : TypeId} {g : Bool} (h : aggOf P t = some g) (w : World) : (isAgg t).run P w = .ok g w := by
  unfold aggOf at h
  cases hu : P.underlying t with
  | none => rw [hu] at h; cases h
  | some d =>
    rw [hu] at h
    cases d <;> simp at h <;> subst h <;> simp [isAgg, run_underlying hu]
theorem run_zeroOf {t : TypeId} {z : Value} (h : zeroOf P t = some z) (w : World) : (zeroValue t).run P w = .ok z w := by
  unfold zeroOf at h
  obtain ⟨i, hi, e⟩ := Option.bind_eq_some_iff.1 h
  simp [zeroValue, typeInfo, hi, e]
theorem elemOf_spec {t e : TypeId} (h : elemOf P t = some e) : P.underlying t = some (.slice e) := by
  unfold elemOf at h
  split at h
  · rename_i e' h'; cases h; exact h'
  · cases h
end

section
variable {X : Nat → Prop} {μ : Nat → Value} {H : AHeap} {w : World} {P : Program}

/-- k cells at a place, read as one value. -/
theorem cut_run {ok : Nat → Prop} {t : TypeId} {g : Bool} {k : Nat} (hg : aggOf P t = some g) (hk : szOf P t = some k) {cs : List AV} {v : AV} (hc : cut g k cs = some v) {ad : Addr} (U : Nat → Value)
    (hU : ∀ (j : Nat) (x : AV), cs[j]? = some x → w.cell? (ad.add j) = some (U j) ∧ Rep μ H w ok x (U j) ∧ (U j).oneCell' = true) :
    ∃ u, (loadVar t ad).run P w = .ok u w ∧ Rep μ H w ok v u := by
  unfold cut at hc
  split at hc
  · rename_i hle
    have hget : ∀ j, j < k → ∃ x, cs[j]? = some x := fun j hj => ⟨cs[j]'(by omega), by simp [show j < cs.length by omega]⟩
    cases g with
    | true =>
      simp only [if_true, Option.some.injEq] at hc
      subst hc
      have hl := run_loadCells (P := P) w ad k U (fun j hj => by obtain ⟨x, hx⟩ := hget j hj; exact (hU j x hx).1)
      refine ⟨.agg ((List.range k).map U).toArray, by simp [loadVar, run_isAgg hg, run_szOf hk, hl], .agg (by simp; omega) (fun i x hx => ?_) (fun i hi => ?_)⟩
      · rw [List.getElem?_take] at hx
        split at hx
        · rename_i hi
          have : (((List.range k).map U).toArray).getD i undef = U i := by simp [Array.getD_eq_getD_getElem?, hi]
          rw [this]
          exact (hU i x hx).2.1
        · cases hx
      · have hi' : i < k := by simpa using hi
        have : (((List.range k).map U).toArray).getD i undef = U i := by simp [Array.getD_eq_getD_getElem?, hi']
        rw [this]
        obtain ⟨x, hx⟩ := hget i hi'
        exact (hU i x hx).2.2
    | false =>
      simp only [Bool.false_eq_true, if_false] at hc
      split at hc
      · rename_i hk1
        cases cs with
        | nil => simp at hc
        | cons x r =>
          simp only [Option.some.injEq] at hc
          subst hc
          obtain ⟨h1, h2, _⟩ := hU 0 x rfl
          rw [add_zero] at h1
          exact ⟨U 0, by simp [loadVar, run_isAgg hg, h1], h2⟩
      · cases hc
  · cases hc

theorem row_cells {b ty sz : Nat} {els : List (List FV)} (h : Rel X μ H w) (hb : getH H b = some (.row ty sz els)) {g : Nat} (hg : blkOf (μ b) = some g) :
    ∃ vals : List Value, vals.length = els.length * sz ∧ (∀ (i j : Nat) (x : List FV) (f : FV), els[i]? = some x → x[j]? = some f → i * sz + j < vals.length ∧ w.cell? ⟨g, i * sz + j, none⟩ = some (vals.getD (i * sz + j) undef) ∧ RepF w (Fz X μ H w) f (vals.getD (i * sz + j) undef)) ∧
      ∃ cap cur, μ b = .slice (some ⟨g, 0, none⟩) els.length cap ∧ w.heap[g]? = some (.cells cur ty (0, 0)) ∧ els.length ≤ cap ∧ cur.size = cap * sz ∧ cur.toList.take (els.length * sz) = vals ∧ cap ≤ maxLen := by
  obtain ⟨hsz, hels, vals, ho, hv⟩ := h.blk b _ hb
  rcases ho.2 with ⟨e, _⟩ | ⟨g', cap, cur, e, hb', hh, hnc, hcm, hcs, htk⟩
  · rw [e] at hg; simp [blkOf] at hg
  · have hgg : g' = g := by rw [e] at hg; simpa [blkOf] using hg
    subst hgg
    refine ⟨vals, ho.1, fun i j x f hx hf => ?_, cap, cur, e, hh, hnc, hcs, htk, hcm⟩
    have hlt : i * sz + j < vals.length := by
      have hi : i < els.length := (List.getElem?_eq_some_iff.1 hx).1
      have hj : j < sz := by rw [← hels i x hx]; exact (List.getElem?_eq_some_iff.1 hf).1
      rw [ho.1]
      have : (i + 1) * sz ≤ els.length * sz := Nat.mul_le_mul_right _ hi
      rw [Nat.add_mul] at this
      omega
    refine ⟨hlt, ?_, hv i j x f hx hf⟩
    have hc := ho.cells (g := g') (by rw [e]; rfl) (i * sz + j) (vals.getD (i * sz + j) undef) (by simp [List.getD_eq_getElem?_getD, List.getElem?_eq_getElem hlt])
    rwa [add_none, Nat.zero_add] at hc

theorem All_app : ∀ {a b : List Prop}, All (a ++ b) ↔ All a ∧ All b
  | [], b => by simp [All]
  | p :: a, b => by simp [All, All_app (a := a), and_assoc]

theorem load_ok (h : Rel X μ H w) {t : TypeId} {g : Bool} {k : Nat} (hg : aggOf P t = some g) (hk : szOf P t = some k) {hs hs' : List Hint} {x v : AV} {c : List Prop} {u : Value}
    (hx : Rep μ H w (Fz X μ H w) x u) (hl : loadA H g k hs x = .val v hs' c) (hc : All c) : ∃ u', (Instr.loadAt t u).run P w = .ok u' w ∧ Rep μ H w (Fz X μ H w) v u' := by
  have done : ∀ {cs : List AV} {ad : Addr} (U : Nat → Value), cut g k cs = some v → u = .pointer (some ad) → (∀ (j : Nat) (x : AV), cs[j]? = some x → w.cell? (ad.add j) = some (U j) ∧ Rep μ H w (Fz X μ H w) x (U j) ∧ (U j).oneCell' = true) →
      ∃ u', (Instr.loadAt t u).run P w = .ok u' w ∧ Rep μ H w (Fz X μ H w) v u' := by
    intro cs ad U hcut e hU
    obtain ⟨u', hr, hrep⟩ := cut_run hg hk hcut U hU
    exact ⟨u', by subst e; simp [Instr.loadAt, Instr.sureAddr, hr], hrep⟩
  have valO_inv : ∀ {hs : List Hint} {y : Option AV}, valO hs y = .val v hs' c → y = some v := by
    intro hs y hy
    cases y with
    | none => simp [valO] at hy
    | some z => simp [valO] at hy; rw [hy.1]
  have epcase : ∀ {b i j ty sz : Nat} {els : List (List FV)} {x0 : List FV} {gg : Nat}, getH H b = some (.row ty sz els) → blkOf (μ b) = some gg → els[i]? = some x0 → cut g k ((x0.map AV.fz).drop j) = some v → u = .pointer (some ⟨gg, i * sz + j, none⟩) →
      ∃ u', (Instr.loadAt t u).run P w = .ok u' w ∧ Rep μ H w (Fz X μ H w) v u' := by
    intro b i j ty sz els x0 gg hb hgg hx0 hcut e
    obtain ⟨vals, _, hv, _⟩ := row_cells h hb hgg
    refine done (fun n => vals.getD (i * sz + j + n) undef) hcut e (fun n y hy => ?_)
    rw [List.getElem?_drop, List.getElem?_map] at hy
    obtain ⟨f, hf, rfl⟩ := Option.map_eq_some_iff.1 hy
    obtain ⟨_, h1, h2⟩ := hv i (j + n) x0 f hx0 hf
    rw [add_none, Nat.add_assoc, ← Nat.add_assoc (i * sz) j n, Nat.add_assoc (i * sz) j n]
    exact ⟨h1, .fz h2, h2.one⟩
  cases hx with
  | ptr hb hgb =>
    rename_i b o ty cells gg
    simp only [loadA, hb] at hl
    have hcut := valO_inv hl
    obtain ⟨g', cur, e, hh, hcs, hcell⟩ := h.blk b _ hb
    have hgg : g' = gg := by rw [e] at hgb; simpa [blkOf] using hgb
    subst hgg
    refine done (fun j => cur.getD (o + j) undef) hcut rfl (fun j y hy => ?_)
    rw [List.getElem?_drop] at hy
    obtain ⟨h1, h2⟩ := hcell (o + j) y hy
    refine ⟨?_, h1, h2⟩
    have hlt : o + j < cur.size := by rw [hcs]; exact (List.getElem?_eq_some_iff.1 hy).1
    rw [add_none]
    simp [World.cell?, hh, Array.getD_eq_getD_getElem?, Array.getElem?_eq_getElem hlt]
  | ep hb hi hgb =>
    rename_i b i j ty sz els gg
    simp only [loadA, hb] at hl
    split at hl
    · rename_i x0 r
      split at hl
      · rename_i v' hcut
        simp only [AR.val.injEq] at hl
        obtain ⟨rfl, rfl, rfl⟩ := hl
        exact epcase hb hgb hc.1 hcut rfl
      · cases hl
    · split at hl
      · rename_i x0 hx0
        exact epcase hb hgb hx0 (valO_inv hl) rfl
      · cases hl
  | fp U hok hcell hrep =>
    simp only [loadA] at hl
    refine done U (valO_inv hl) rfl (fun j y hy => ?_)
    rw [List.getElem?_map] at hy
    obtain ⟨f, hf, rfl⟩ := Option.map_eq_some_iff.1 hy
    exact ⟨hcell j f hf, .fz (hrep j f hf), (hrep j f hf).one⟩
  | dead hx hb hd h1 =>
    rename_i b
    cases x <;> simp [refOf] at hx <;> subst hx <;> simp [loadA, hd] at hl
  | _ => simp [loadA] at hl
end

end Go.Proofs.Ai
