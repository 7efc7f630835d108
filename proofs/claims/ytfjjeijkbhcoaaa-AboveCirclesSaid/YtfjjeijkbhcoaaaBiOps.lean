/- The abstract machine, 7: operations: operands, cells, loads, addresses. The abstract machine, 8: operations: a slice's elements, addresses, pieces, lengths, stores. The abstract machine, 9: operations: fields, indexes, pieces, two operands, conversions. The abstract machine, 10: operations: two operands, conversions. The abstract machine, 11: operations that make a block: rows frozen on the way, parts filled in. The abstract machine, 12: operations that make a block, grow a row, store. The abstract machine, 13: append, stores. -/
import Derived.Test.YtfjjeijkbhcoaaaBiRel
import Derived.Laws.BytesArg
set_option linter.unusedVariables false
set_option linter.unusedSimpArgs false
namespace Go.Proofs.Ai
open Go

theorem add_none (g o j : Nat) : (⟨g, o, none⟩ : Addr).add j = ⟨g, o + j, none⟩ := by unfold Addr.add; split <;> simp_all
theorem add_zero (a : Addr) : a.add 0 = a := by simp [Addr.add]

structure Ctx (X : Nat → Prop) (μ : Nat → Value) (H : AHeap) (w : World) (ts : List AV) (a : Act) : Prop where
  rel : Rel X μ H w
  tmps : ∀ t, Rep μ H w (Fz X μ H w) (getT ts t) (a.tmps.getD t undef)

section
variable {μ : Nat → Value} {H : AHeap} {w : World} {ok : Nat → Prop}

theorem rep_sc {v : Value} (h : v.oneCell' = true) : Rep μ H w ok (AV.sc v) v := .fz (.sc h)
theorem rep_sc_inv {v u : Value} (h : Rep μ H w ok (.fz (.sc v)) u) : u = v ∧ v.oneCell' = true := by
  cases h with
  | fz h => cases h with
    | sc h => exact ⟨rfl, h⟩
  | dead hx => simp [refOf] at hx
theorem rep_scs (cs : List Value) (h : cs.all (·.oneCell') = true) : Rep μ H w ok (.agg (cs.map AV.sc)) (.agg cs.toArray) := by
  refine .agg (by simp) (fun i x hx => ?_) (fun i hi => ?_)
  · rw [List.getElem?_map] at hx
    obtain ⟨v, hv, rfl⟩ := Option.map_eq_some_iff.1 hx
    have : cs.toArray.getD i undef = v := by simp [Array.getD_eq_getD_getElem?, hv]
    rw [this]
    exact rep_sc (List.all_eq_true.1 h v (List.mem_of_getElem? hv))
  · have hi' : i < cs.length := by simpa using hi
    have : cs.toArray.getD i undef = cs[i] := by simp [Array.getD_eq_getD_getElem?, hi']
    rw [this]
    exact List.all_eq_true.1 h _ (List.getElem_mem hi')
theorem rep_ofValue (v : Value) : Rep μ H w ok (ofValue v) v := by
  cases v with
  | agg cs =>
    simp only [ofValue]
    split
    · rename_i h; simpa using rep_scs cs.toList h
    · exact .junk
  | tuple vs => exact .junk
  | _ => exact rep_sc rfl

theorem Rep.one {x : AV} {u : Value} (h : Rep μ H w ok x u) (h1 : Ai.one x = true) : u.oneCell' = true := by
  cases h with
  | fz h => exact h.one
  | own _ _ h => exact h
  | ob _ _ h => exact h
  | dead _ _ _ h => exact h
  | agg | tup | junk => simp [Ai.one] at h1
  | _ => rfl

theorem ones_get {l : List AV} (h : ones l = true) {i : Nat} {x : AV} (hx : l[i]? = some x) : Ai.one x = true := List.all_eq_true.1 h x (List.mem_of_getElem? hx)

/-- A value's cells. -/
theorem rep_cells {x : AV} {u : Value} (h : Rep μ H w ok x u) (h1 : ones (cellsA x) = true) : u.cells.size = (cellsA x).length ∧ (∀ (i : Nat) (y : AV), (cellsA x)[i]? = some y → Rep μ H w ok y (u.cells.getD i undef)) ∧ ∀ i, i < u.cells.size → (u.cells.getD i undef).oneCell' = true := by
  have plain : Ai.one x = true → cellsA x = [x] → u.cells.size = (cellsA x).length ∧ (∀ (i : Nat) (y : AV), (cellsA x)[i]? = some y → Rep μ H w ok y (u.cells.getD i undef)) ∧ ∀ i, i < u.cells.size → (u.cells.getD i undef).oneCell' = true := by
    intro ho hc
    have hu := h.one ho
    have e : u.cells = #[u] := by cases u <;> simp [Value.oneCell'] at hu <;> rfl
    rw [e, hc]
    refine ⟨rfl, fun i y hy => ?_, fun i hi => ?_⟩
    · cases i with
      | zero => simp at hy; subst hy; simpa using h
      | succ i => simp at hy
    · obtain rfl : i = 0 := by simpa using hi
      simpa using hu
  cases x with
  | agg l =>
    cases h with
    | agg hl h h1' => exact ⟨hl, h, h1'⟩
    | dead hx => simp [refOf] at hx
  | tup l => simp [cellsA, ones, Ai.one] at h1
  | junk => simp [cellsA, ones, Ai.one] at h1
  | _ => exact plain rfl rfl
end

section
variable {X : Nat → Prop} {μ : Nat → Value} {H : AHeap} {w : World} {ts : List AV} {a : Act}
theorem Ctx.eval (h : Ctx X μ H w ts a) (x : Operand) : Rep μ H w (Fz X μ H w) (evalA ts x) (a.eval x) := by
  cases x with
  | tmp t => exact h.tmps t
  | const v => exact rep_ofValue v
  | global g => exact .junk
  | func f => exact .fn rfl rfl (fun i x hx => by simp at hx) (fun i x hx => by simp at hx)
end

/-! ### runs -/
section
variable {P : Program} {w : World}
theorem szOf_spec {t : TypeId} {k : Nat} (h : szOf P t = some k) : ∃ i, P.info? t = some i ∧ i.size = k := by
  unfold szOf at h
  obtain ⟨i, hi, e⟩ := Option.map_eq_some_iff.1 h
  exact ⟨i, hi, e⟩
theorem run_szOf {t : TypeId} {k : Nat} (h : szOf P t = some k) (w : World) : (sizeOf t).run P w = .ok k w := by
  obtain ⟨i, hi, rfl⟩ := szOf_spec h
  simp [sizeOf, typeInfo, hi]
theorem run_isAgg {t : TypeId} {g : Bool} (h : aggOf P t = some g) (w : World) : (isAgg t).run P w = .ok g w := by
  unfold aggOf at h
  cases hu : P.underlying t with
  | none => rw [hu] at h; cases h
  | some d =>
    rw [hu] at h
    cases d <;> simp at h <;> subst h <;> simp [isAgg, run_underlying hu]
theorem run_zeroOf {t : TypeId} {z : Value} (h : zeroOf P t = some z) (w : World) : (zeroValue t).run P w = .ok z w := by
  unfold zeroOf at h
  obtain ⟨i, hi, e⟩ := Option.bind_eq_some_iff.1 h
  simp [zeroValue, typeInfo, hi, e]
theorem elemOf_spec {t e : TypeId} (h : elemOf P t = some e) : P.underlying t = some (.slice e) := by
  unfold elemOf at h
  split at h
  · rename_i e' h'; cases h; exact h'
  · cases h
end

section
variable {X : Nat → Prop} {μ : Nat → Value} {H : AHeap} {w : World} {P : Program}

/-- k cells at a place, read as one value. -/
theorem cut_run {ok : Nat → Prop} {t : TypeId} {g : Bool} {k : Nat} (hg : aggOf P t = some g) (hk : szOf P t = some k) {cs : List AV} {v : AV} (hc : cut g k cs = some v) {ad : Addr} (U : Nat → Value)
    (hU : ∀ (j : Nat) (x : AV), cs[j]? = some x → w.cell? (ad.add j) = some (U j) ∧ Rep μ H w ok x (U j) ∧ (U j).oneCell' = true) :
    ∃ u, (loadVar t ad).run P w = .ok u w ∧ Rep μ H w ok v u := by
  unfold cut at hc
  split at hc
  · rename_i hle
    have hget : ∀ j, j < k → ∃ x, cs[j]? = some x := fun j hj => ⟨cs[j]'(by omega), by simp [show j < cs.length by omega]⟩
    cases g with
    | true =>
      simp only [if_true, Option.some.injEq] at hc
      subst hc
      have hl := run_loadCells (P := P) w ad k U (fun j hj => by obtain ⟨x, hx⟩ := hget j hj; exact (hU j x hx).1)
      refine ⟨.agg ((List.range k).map U).toArray, by simp [loadVar, run_isAgg hg, run_szOf hk, hl], .agg (by simp; omega) (fun i x hx => ?_) (fun i hi => ?_)⟩
      · rw [List.getElem?_take] at hx
        split at hx
        · rename_i hi
          have : (((List.range k).map U).toArray).getD i undef = U i := by simp [Array.getD_eq_getD_getElem?, hi]
          rw [this]
          exact (hU i x hx).2.1
        · cases hx
      · have hi' : i < k := by simpa using hi
        have : (((List.range k).map U).toArray).getD i undef = U i := by simp [Array.getD_eq_getD_getElem?, hi']
        rw [this]
        obtain ⟨x, hx⟩ := hget i hi'
        exact (hU i x hx).2.2
    | false =>
      simp only [Bool.false_eq_true, if_false] at hc
      split at hc
      · rename_i hk1
        cases cs with
        | nil => simp at hc
        | cons x r =>
          simp only [Option.some.injEq] at hc
          subst hc
          obtain ⟨h1, h2, _⟩ := hU 0 x rfl
          rw [add_zero] at h1
          exact ⟨U 0, by simp [loadVar, run_isAgg hg, h1], h2⟩
      · cases hc
  · cases hc

theorem row_cells {b ty sz : Nat} {els : List (List FV)} (h : Rel X μ H w) (hb : getH H b = some (.row ty sz els)) {g : Nat} (hg : blkOf (μ b) = some g) :
    ∃ vals : List Value, vals.length = els.length * sz ∧ (∀ (i j : Nat) (x : List FV) (f : FV), els[i]? = some x → x[j]? = some f → i * sz + j < vals.length ∧ w.cell? ⟨g, i * sz + j, none⟩ = some (vals.getD (i * sz + j) undef) ∧ RepF w (Fz X μ H w) f (vals.getD (i * sz + j) undef)) ∧
      ∃ cap cur, μ b = .slice (some ⟨g, 0, none⟩) els.length cap ∧ w.heap[g]? = some (.cells cur ty (0, 0)) ∧ els.length ≤ cap ∧ cur.size = cap * sz ∧ cur.toList.take (els.length * sz) = vals ∧ cap ≤ maxLen := by
  obtain ⟨hsz, hels, vals, ho, hv⟩ := h.blk b _ hb
  rcases ho.2 with ⟨e, _⟩ | ⟨g', cap, cur, e, hb', hh, hnc, hcm, hcs, htk⟩
  · rw [e] at hg; simp [blkOf] at hg
  · have hgg : g' = g := by rw [e] at hg; simpa [blkOf] using hg
    subst hgg
    refine ⟨vals, ho.1, fun i j x f hx hf => ?_, cap, cur, e, hh, hnc, hcs, htk, hcm⟩
    have hlt : i * sz + j < vals.length := by
      have hi : i < els.length := (List.getElem?_eq_some_iff.1 hx).1
      have hj : j < sz := by rw [← hels i x hx]; exact (List.getElem?_eq_some_iff.1 hf).1
      rw [ho.1]
      have : (i + 1) * sz ≤ els.length * sz := Nat.mul_le_mul_right _ hi
      rw [Nat.add_mul] at this
      omega
    refine ⟨hlt, ?_, hv i j x f hx hf⟩
    have hc := ho.cells (g := g') (by rw [e]; rfl) (i * sz + j) (vals.getD (i * sz + j) undef) (by simp [List.getD_eq_getElem?_getD, List.getElem?_eq_getElem hlt])
    rwa [add_none, Nat.zero_add] at hc

theorem All_app : ∀ {a b : List Prop}, All (a ++ b) ↔ All a ∧ All b
  | [], b => by simp [All]
  | p :: a, b => by simp [All, All_app (a := a), and_assoc]

theorem load_ok (h : Rel X μ H w) {t : TypeId} {g : Bool} {k : Nat} (hg : aggOf P t = some g) (hk : szOf P t = some k) {hs hs' : List Hint} {x v : AV} {c : List Prop} {u : Value}
    (hx : Rep μ H w (Fz X μ H w) x u) (hl : loadA H g k hs x = .val v hs' c) (hc : All c) : ∃ u', (Instr.loadAt t u).run P w = .ok u' w ∧ Rep μ H w (Fz X μ H w) v u' := by
  have done : ∀ {cs : List AV} {ad : Addr} (U : Nat → Value), cut g k cs = some v → u = .pointer (some ad) → (∀ (j : Nat) (x : AV), cs[j]? = some x → w.cell? (ad.add j) = some (U j) ∧ Rep μ H w (Fz X μ H w) x (U j) ∧ (U j).oneCell' = true) →
      ∃ u', (Instr.loadAt t u).run P w = .ok u' w ∧ Rep μ H w (Fz X μ H w) v u' := by
    intro cs ad U hcut e hU
    obtain ⟨u', hr, hrep⟩ := cut_run hg hk hcut U hU
    exact ⟨u', by subst e; simp [Instr.loadAt, Instr.sureAddr, hr], hrep⟩
  have valO_inv : ∀ {hs : List Hint} {y : Option AV}, valO hs y = .val v hs' c → y = some v := by
    intro hs y hy
    cases y with
    | none => simp [valO] at hy
    | some z => simp [valO] at hy; rw [hy.1]
  have epcase : ∀ {b i j ty sz : Nat} {els : List (List FV)} {x0 : List FV} {gg : Nat}, getH H b = some (.row ty sz els) → blkOf (μ b) = some gg → els[i]? = some x0 → cut g k ((x0.map AV.fz).drop j) = some v → u = .pointer (some ⟨gg, i * sz + j, none⟩) →
      ∃ u', (Instr.loadAt t u).run P w = .ok u' w ∧ Rep μ H w (Fz X μ H w) v u' := by
    intro b i j ty sz els x0 gg hb hgg hx0 hcut e
    obtain ⟨vals, _, hv, _⟩ := row_cells h hb hgg
    refine done (fun n => vals.getD (i * sz + j + n) undef) hcut e (fun n y hy => ?_)
    rw [List.getElem?_drop, List.getElem?_map] at hy
    obtain ⟨f, hf, rfl⟩ := Option.map_eq_some_iff.1 hy
    obtain ⟨_, h1, h2⟩ := hv i (j + n) x0 f hx0 hf
    rw [add_none, Nat.add_assoc, ← Nat.add_assoc (i * sz) j n, Nat.add_assoc (i * sz) j n]
    exact ⟨h1, .fz h2, h2.one⟩
  cases hx with
  | ptr hb hgb =>
    rename_i b o ty cells gg
    simp only [loadA, hb] at hl
    have hcut := valO_inv hl
    obtain ⟨g', cur, e, hh, hcs, hcell⟩ := h.blk b _ hb
    have hgg : g' = gg := by rw [e] at hgb; simpa [blkOf] using hgb
    subst hgg
    refine done (fun j => cur.getD (o + j) undef) hcut rfl (fun j y hy => ?_)
    rw [List.getElem?_drop] at hy
    obtain ⟨h1, h2⟩ := hcell (o + j) y hy
    refine ⟨?_, h1, h2⟩
    have hlt : o + j < cur.size := by rw [hcs]; exact (List.getElem?_eq_some_iff.1 hy).1
    rw [add_none]
    simp [World.cell?, hh, Array.getD_eq_getD_getElem?, Array.getElem?_eq_getElem hlt]
  | ep hb hi hgb =>
    rename_i b i j ty sz els gg
    simp only [loadA, hb] at hl
    split at hl
    · rename_i x0 r
      split at hl
      · rename_i v' hcut
        simp only [AR.val.injEq] at hl
        obtain ⟨rfl, rfl, rfl⟩ := hl
        exact epcase hb hgb hc.1 hcut rfl
      · cases hl
    · split at hl
      · rename_i x0 hx0
        exact epcase hb hgb hx0 (valO_inv hl) rfl
      · cases hl
  | fp U hok hcell hrep =>
    simp only [loadA] at hl
    refine done U (valO_inv hl) rfl (fun j y hy => ?_)
    rw [List.getElem?_map] at hy
    obtain ⟨f, hf, rfl⟩ := Option.map_eq_some_iff.1 hy
    exact ⟨hcell j f hf, .fz (hrep j f hf), (hrep j f hf).one⟩
  | dead hx hb hd h1 =>
    rename_i b
    cases x <;> simp [refOf] at hx <;> subst hx <;> simp [loadA, hd] at hl
  | _ => simp [loadA] at hl
end

end Go.Proofs.Ai
set_option linter.unusedVariables false
set_option linter.unusedSimpArgs false
namespace Go.Proofs.Ai
open Go

theorem idx_lt {n sz i j : Nat} (hi : i < n) (hj : j < sz) : i * sz + j < n * sz := by
  have : (i + 1) * sz ≤ n * sz := Nat.mul_le_mul_right _ hi
  rw [Nat.add_mul] at this
  omega
theorem div_of_idx {sz i j : Nat} (hj : j < sz) : (i * sz + j) / sz = i := by
  rw [Nat.mul_comm, Nat.mul_add_div (by omega), Nat.div_eq_of_lt hj, Nat.add_zero]
theorem mod_of_idx {sz i j : Nat} (hj : j < sz) : (i * sz + j) % sz = j := by
  rw [Nat.mul_comm, Nat.mul_add_mod, Nat.mod_eq_of_lt hj]

section
variable {X : Nat → Prop} {μ : Nat → Value} {H : AHeap} {w : World} {P : Program}

theorem elsA_sc {sz : Nat} {v : Value} {els : List (List FV)} (h : elsA H sz (.fz (.sc v)) = some els) : ∃ A c, v = .slice A 0 c ∧ els = [] := by
  unfold elsA at h
  split at h
  · rename_i heq; simp only [AV.fz.injEq, FV.sc.injEq] at heq; cases h; exact ⟨_, _, heq, rfl⟩
  · rename_i heq; simp at heq
  · rename_i heq; simp at heq
  · rename_i heq; simp at heq
  · cases h
theorem lenA_sc {v : Value} {n : Int} (h : lenA H (.fz (.sc v)) = some n) : (∃ s, v = .string s ∧ n = s.size) ∨ ∃ A c, v = .slice A 0 c ∧ n = 0 := by
  unfold lenA at h
  split at h
  · rename_i heq; simp only [AV.fz.injEq, FV.sc.injEq] at heq; cases h; exact .inl ⟨_, heq, rfl⟩
  · rename_i heq; simp only [AV.fz.injEq, FV.sc.injEq] at heq; cases h; exact .inr ⟨_, _, heq, rfl⟩
  · rename_i heq; simp at heq
  · rename_i heq; simp at heq
  · rename_i heq; simp at heq
  · cases h

structure Reads (w : World) (ok : Nat → Prop) (sz : Nat) (els : List (List FV)) (u : Value) (A : Option Addr) (c : Nat) (vals : List Value) : Prop where
  val : u = .slice A els.length c
  cap : els.length ≤ c
  len : vals.length = els.length * sz
  lens : ∀ (i : Nat) (x : List FV), els[i]? = some x → x.length = sz
  none : A = none → els = []
  cells : ∀ ad, A = some ad → ∀ (j : Nat) (v : Value), vals[j]? = some v → w.cell? (ad.add j) = some v
  reps : ∀ (i j : Nat) (x : List FV) (f : FV), els[i]? = some x → x[j]? = some f → RepF w ok f (vals.getD (i * sz + j) undef)

theorem Reads.ones {ok : Nat → Prop} {sz : Nat} {els : List (List FV)} {u : Value} {A : Option Addr} {c : Nat} {vals : List Value} (h : Reads w ok sz els u A c vals) : ∀ v ∈ vals, v.oneCell' = true := by
  intro v hv
  obtain ⟨k, hk, rfl⟩ := List.getElem_of_mem hv
  have hlt := hk
  rw [h.len] at hlt
  have hsz : 0 < sz := by rcases Nat.eq_zero_or_pos sz with h0 | h0; · subst h0; simp at hlt
                          · exact h0
  have hi : k / sz < els.length := by rw [Nat.div_lt_iff_lt_mul hsz]; exact hlt
  have hj : k % sz < sz := Nat.mod_lt _ hsz
  have hx := List.getElem?_eq_getElem hi
  have hl := h.lens _ _ hx
  have hf : (els[k / sz])[k % sz]? = some ((els[k / sz])[k % sz]'(by omega)) := List.getElem?_eq_getElem _
  have := (h.reps _ _ _ _ hx hf).one
  rw [Nat.mul_comm, Nat.div_add_mod] at this
  simpa [List.getD_eq_getElem?_getD, List.getElem?_eq_getElem hk] using this

theorem els_read (h : Rel X μ H w) {sz : Nat} {x : AV} {els : List (List FV)} {u : Value} (hx : Rep μ H w (Fz X μ H w) x u) (he : elsA H sz x = some els) : ∃ A c vals, Reads w (Fz X μ H w) sz els u A c vals := by
  cases hx with
  | fz hf =>
    cases hf with
    | sc h1 =>
      obtain ⟨A, c, rfl, rfl⟩ := elsA_sc he
      exact ⟨A, c, [], rfl, Nat.zero_le _, by simp, fun i x hx => (by simp at hx), fun _ => rfl, fun ad h j v hv => (by simp at hv), fun i j x f hx => (by simp at hx)⟩
    | mp => simp [elsA] at he
    | nil =>
      rename_i sz' A c
      simp only [elsA] at he
      split at he
      · cases he
        exact ⟨A, c, [], rfl, Nat.zero_le _, by simp, fun i x hx => (by simp at hx), fun _ => rfl, fun ad h j v hv => (by simp at hv), fun i j x f hx => by simp at hx⟩
      · cases he
    | sl U hc hok hsz hcell hrep =>
      rename_i sz' xs ad c
      simp only [elsA] at he
      split at he
      · rename_i hs
        simp only [Option.some.injEq] at he
        subst he
        subst hs
        refine ⟨some ad, c, (List.range (xs.length * sz')).map fun k => U (k / sz') (k % sz'), rfl, hc, by simp, hsz, fun h => (by cases h), fun ad' ha k v hv => ?_, fun i j x f hx hf => ?_⟩
        · cases ha
          have hlt : k < xs.length * sz' := by have := (List.getElem?_eq_some_iff.1 hv).1; simpa using this
          rw [List.getElem?_map, List.getElem?_range hlt, Option.map_some] at hv
          cases hv
          · skip
            have hs0 : 0 < sz' := by rcases Nat.eq_zero_or_pos sz' with h0 | h0; · subst h0; simp at hlt
                                     · exact h0
            have hi : k / sz' < xs.length := by rw [Nat.div_lt_iff_lt_mul hs0]; exact hlt
            have hj : k % sz' < sz' := Nat.mod_lt _ hs0
            have hx := List.getElem?_eq_getElem hi
            have hl := hsz _ _ hx
            have hf : (xs[k / sz'])[k % sz']? = some ((xs[k / sz'])[k % sz']'(by omega)) := List.getElem?_eq_getElem _
            have := hcell _ _ _ _ hx hf
            rwa [Nat.mul_comm, Nat.div_add_mod] at this
        · have hi : i < xs.length := (List.getElem?_eq_some_iff.1 hx).1
          have hj : j < sz' := by rw [← hsz i x hx]; exact (List.getElem?_eq_some_iff.1 hf).1
          have : ((List.range (xs.length * sz')).map fun k => U (k / sz') (k % sz')).getD (i * sz' + j) undef = U i j := by
            simp [List.getD_eq_getElem?_getD, List.getElem?_range (idx_lt hi hj), div_of_idx hj, mod_of_idx hj]
          rw [this]
          exact hrep i j x f hx hf
      · cases he
  | own hb hv h1 =>
    rename_i b ty sz' els'
    simp only [elsA, hb] at he
    split at he
    · rename_i hs
      simp only [Option.some.injEq] at he
      subst he
      subst hs
      obtain ⟨hsz, hels, vals, ho, hvv⟩ := h.blk b _ hb
      rw [hv]
      rcases ho.2 with ⟨e, hn⟩ | ⟨g, cap, cur, e, _, hh, hnc, _⟩
      · have hnil : els' = [] := List.eq_nil_of_length_eq_zero hn
        refine ⟨none, 0, vals, by rw [e, hn], by omega, ho.1, hels, fun _ => hnil, fun ad h => (by cases h), hvv⟩
      · refine ⟨some ⟨g, 0, none⟩, cap, vals, e, hnc, ho.1, hels, fun h => (by cases h), fun ad ha j v hv => ?_, hvv⟩
        cases ha
        exact ho.cells (g := g) (by rw [e]; rfl) j v hv
    · cases he
  | vw hb hm hc hA =>
    rename_i b o m ty sz' els' A c
    simp only [elsA, hb] at he
    split at he
    · rename_i hs
      simp only [Option.some.injEq] at he
      subst he
      subst hs
      have hlen : ((els'.drop o).take m).length = m := by simp; omega
      obtain ⟨hsz, hels, vals, ho, hvv⟩ := h.blk b _ hb
      refine ⟨A, c, (vals.drop (o * sz')).take (m * sz'), by rw [hlen], by rw [hlen]; exact hc, ?_, fun i x hx => ?_, fun hn => ?_, fun ad ha j v hv => ?_, fun i j x f hx hf => ?_⟩
      · rw [hlen, List.length_take, List.length_drop, ho.1]
        have : (o + m) * sz' ≤ els'.length * sz' := Nat.mul_le_mul_right _ hm
        rw [Nat.add_mul] at this
        omega
      · rw [List.getElem?_take] at hx
        split at hx
        · rw [List.getElem?_drop] at hx; exact hels _ x hx
        · cases hx
      · rcases Nat.eq_zero_or_pos m with h0 | h0
        · subst h0; simp
        · obtain ⟨g, _, e⟩ := hA h0; rw [hn] at e; cases e
      · rcases Nat.eq_zero_or_pos m with h0 | h0
        · subst h0; simp at hv
        · obtain ⟨g, hg, e⟩ := hA h0
          rw [ha] at e
          cases e
          rw [List.getElem?_take] at hv
          split at hv
          · rw [List.getElem?_drop] at hv
            rcases ho.2 with ⟨e, _⟩ | ⟨g', cap, cur, e, _, hh, hnc, _⟩
            · rw [e] at hg; simp [blkOf] at hg
            · have : g' = g := by rw [e] at hg; simpa [blkOf] using hg
              subst this
              have hcc := ho.cells (g := g') (by rw [e]; rfl) _ v hv
              rw [add_none, Nat.zero_add] at hcc
              rw [add_none]
              exact hcc
          · cases hv
      · rw [List.getElem?_take] at hx
        split at hx
        · rename_i hi
          rw [List.getElem?_drop] at hx
          have hr := hvv (o + i) j x f hx hf
          have hj : j < sz' := by rw [← hels _ x hx]; exact (List.getElem?_eq_some_iff.1 hf).1
          have hlt := idx_lt hi hj
          have hlt2 : o * sz' + (i * sz' + j) < vals.length := by
            rw [ho.1]
            have h1 := idx_lt (n := els'.length) (i := o + i) (by omega) hj
            rw [Nat.add_mul] at h1
            omega
          have : ((vals.drop (o * sz')).take (m * sz')).getD (i * sz' + j) undef = vals.getD ((o + i) * sz' + j) undef := by
            simp only [List.getD_eq_getElem?_getD, List.getElem?_take, hlt, if_true, List.getElem?_drop]
            rw [Nat.add_mul, Nat.add_assoc]
          rw [this]
          exact hr
        · cases hx
    · cases he
  | dead hx hb hd h1 =>
    rename_i b
    cases x <;> simp [refOf] at hx <;> subst hx <;> simp [elsA, hd] at he
  | _ => simp [elsA] at he

/-! ### lengths -/
theorem len_ok (h : Rel X μ H w) {x : AV} {n : Int} {u : Value} (hx : Rep μ H w (Fz X μ H w) x u) (hl : lenA H x = some n) : (∃ s, x = .fz (.sc (.string s)) ∧ u = .string s ∧ n = s.size) ∨ ∃ A m c, u = .slice A m c ∧ n = m ∧ m ≤ c ∧ (∀ s, x ≠ .fz (.sc (.string s))) := by
  cases hx with
  | fz hf =>
    cases hf with
    | sc h1 =>
      rcases lenA_sc hl with ⟨s, rfl, rfl⟩ | ⟨A, c, rfl, rfl⟩
      · exact .inl ⟨s, rfl, rfl, rfl⟩
      · exact .inr ⟨A, 0, c, rfl, rfl, Nat.zero_le _, by simp⟩
    | mp => simp [lenA] at hl
    | nil => simp only [lenA, Option.some.injEq] at hl; exact .inr ⟨_, 0, _, rfl, hl.symm, Nat.zero_le _, by simp⟩
    | sl U hc hok hsz hcell hrep => simp only [lenA, Option.some.injEq] at hl; exact .inr ⟨_, _, _, rfl, hl.symm, hc, by simp⟩
  | own hb hv h1 =>
    rename_i b ty sz els
    simp only [lenA, hb, Option.some.injEq] at hl
    obtain ⟨hsz, hels, vals, ho, hvv⟩ := h.blk b _ hb
    rw [hv]
    rcases ho.2 with ⟨e, hn⟩ | ⟨g, cap, cur, e, _, hh, hnc, _⟩
    · exact .inr ⟨none, 0, 0, e, by rw [← hl, hn], Nat.le_refl _, by simp⟩
    · exact .inr ⟨_, _, cap, e, hl.symm, hnc, by simp⟩
  | vw hb hm hc hA => simp only [lenA, hb, Option.some.injEq] at hl; exact .inr ⟨_, _, _, rfl, hl.symm, hc, by simp⟩
  | dead hx hb hd h1 =>
    rename_i b
    cases x <;> simp [refOf] at hx <;> subst hx <;> simp [lenA, hd] at hl
  | _ => simp [lenA] at hl
end
end Go.Proofs.Ai
set_option linter.unusedVariables false
set_option linter.unusedSimpArgs false
namespace Go.Proofs.Ai
open Go

theorem add_add (a : Addr) (m n : Nat) : (a.add m).add n = a.add (m + n) := by
  unfold Addr.add
  by_cases hm : m = 0
  · subst hm; simp
  · by_cases hn : n = 0
    · subst hn; simp
    · simp [hm, hn, Nat.add_assoc]

theorem chk_spec {p : Prop} [Decidable p] {hs hs' : List Hint} {c : List Prop} (h : chk p hs = some (hs', c)) (hc : All c) : p := by
  unfold chk at h
  split at h
  · cases h; exact hc.1
  · split at h
    · assumption
    · cases h

theorem asI_spec {x : AV} {n : Int} (h : asI x = some n) : ∃ k, x = .fz (.sc (.int k n)) := by
  unfold asI at h
  split at h
  · cases h; exact ⟨_, rfl⟩
  · cases h

section
variable {X : Nat → Prop} {μ : Nat → Value} {H : AHeap} {w : World} {P : Program}

theorem fieldsOf_spec {t : TypeId} {fs : List (Nat × TypeId)} {f off : Nat} {ft : TypeId} (h : fieldsOf P t = some fs) (hf : fs[f]? = some (off, ft)) : ∃ fields fd, P.underlying t = some (.struct fields) ∧ fields[f]? = some fd ∧ fd.offset = off ∧ fd.type = ft := by
  unfold fieldsOf at h
  split at h
  · rename_i fields hu
    cases h
    rw [List.getElem?_map] at hf
    obtain ⟨fd, hfd, e⟩ := Option.map_eq_some_iff.1 hf
    simp only [Prod.mk.injEq] at e
    exact ⟨fields, fd, hu, by simpa using hfd, e.1, e.2⟩
  · cases h

theorem run_field {t : TypeId} {fs : List (Nat × TypeId)} {f off k : Nat} {ft : TypeId} (h : fieldsOf P t = some fs) (hf : fs[f]? = some (off, ft)) (hk : szOf P ft = some k) (h0 : ¬ k = 0) (ad : Addr) (w : World) :
    (Instr.fieldAt t (.pointer (some ad)) f).run P w = .ok (.pointer (some (ad.add off))) w := by
  obtain ⟨fields, fd, hu, hfd, rfl, rfl⟩ := fieldsOf_spec h hf
  simp [Instr.fieldAt, run_underlying hu, hfd, Instr.sureAddr, fieldPlace, run_szOf hk, h0]

theorem run_indexAt {t e : TypeId} {sz : Nat} (he : elemOf P t = some e) (hsz : szOf P e = some sz) {ad : Addr} {n c : Nat} {k : IntKind} {i : Int} (h0 : 0 ≤ i) (h1 : i < n) (w : World) :
    (Instr.indexAt t (.slice (some ad) n c) (.int k i)).run P w = .ok (.pointer (some (ad.add (i.toNat * sz)))) w := by
  have hu := elemOf_spec he
  simp [Instr.indexAt, asIntOf, run_underlying hu, h0, h1, run_szOf hsz]

theorem idx_ok (h : Rel X μ H w) {t e : TypeId} {sz : Nat} (he : elemOf P t = some e) (hsz : szOf P e = some sz) {hs hs' : List Hint} {x v : AV} {c : List Prop} {u : Value} {k : IntKind} {i : Int}
    (hx : Rep μ H w (Fz X μ H w) x u) (hl : idxA H hs sz x i = .val v hs' c) (hc : All c) : ∃ u', (Instr.indexAt t u (.int k i)).run P w = .ok u' w ∧ Rep μ H w (Fz X μ H w) v u' := by
  have slcase : ∀ {xs : List (List FV)} {y : List FV}, RepF w (Fz X μ H w) (.sl sz xs) u → 0 ≤ i → xs[i.toNat]? = some y → ∃ u', (Instr.indexAt t u (.int k i)).run P w = .ok u' w ∧ Rep μ H w (Fz X μ H w) (.fp y) u' := by
    intro xs y hf h0 hy
    have hlt := (List.getElem?_eq_some_iff.1 hy).1
    cases hf with
    | nil => simp at hy
    | sl U hcap hok hlen hcell hrep =>
      rename_i ad cc
      refine ⟨_, run_indexAt he hsz h0 (by omega) w, .fp (fun j => U i.toNat j) ?_ (fun j f hf' => ?_) (fun j f hf' => hrep _ j y f hy hf')⟩
      · rw [show (ad.add (i.toNat * sz)).block = ad.block from by unfold Addr.add; split <;> rfl]; exact hok
      · rw [add_add]; exact hcell _ j y f hy hf'
  cases hx with
  | fz hf =>
    rename_i f
    cases f with
    | sc v => simp [idxA] at hl
    | mp es cl => simp [idxA] at hl
    | sl sz' xs =>
      simp only [idxA] at hl
      split at hl
      · rename_i hs2
        subst hs2
        split at hl
        · rename_i y r
          simp only [AR.val.injEq] at hl
          obtain ⟨rfl, rfl, rfl⟩ := hl
          exact slcase hf hc.1.1 hc.1.2
        · split at hl
          · rename_i h0
            split at hl
            · rename_i y hy
              simp only [AR.val.injEq] at hl
              obtain ⟨rfl, rfl, rfl⟩ := hl
              exact slcase hf h0 hy
            · cases hl
          · cases hl
      · cases hl
  | own hb hv h1 =>
    rename_i b ty sz' els
    simp only [idxA, hb] at hl
    split at hl
    · rename_i hs2
      subst hs2
      split at hl
      · rename_i r c' hchk
        simp only [AR.val.injEq] at hl
        obtain ⟨rfl, rfl, rfl⟩ := hl
        obtain ⟨h0, h2⟩ := chk_spec hchk hc
        obtain ⟨hsz0, hels, vals, ho, hvv⟩ := h.blk b _ hb
        rcases ho.2 with ⟨e', hn⟩ | ⟨g, cap, cur, e', _, hh, hnc, _⟩
        · omega
        · rw [hv, e']
          refine ⟨_, run_indexAt he hsz h0 h2 w, ?_⟩
          rw [add_none, Nat.zero_add]
          have := Rep.ep (μ := μ) (w := w) (ok := Fz X μ H w) (j := 0) (i := i.toNat) (g := g) hb (by omega) (by rw [e']; rfl)
          simpa using this
      · cases hl
    · cases hl
  | dead hx' hb hd h1 =>
    rename_i b
    cases x <;> simp [refOf] at hx' <;> subst hx' <;> simp [idxA, hd] at hl
  | _ => simp [idxA] at hl

theorem run_sliceBounds {isS : Bool} {n c : Nat} {lo hi : Option Value} {l hh : Int} (hl : lo = none ∧ l = 0 ∨ ∃ k, lo = some (.int k l)) (hhi : hi = none ∧ hh = n ∨ ∃ k, hi = some (.int k hh)) (h0 : 0 ≤ l) (h1 : l ≤ hh) (h2 : hh ≤ n) (hnc : n ≤ c) (w : World) :
    (Instr.sliceBounds isS n c lo hi none).run P w = .ok (l.toNat, hh.toNat, c) w := by
  have hh0 : 0 ≤ hh := by omega
  have e1 : 0 ≤ hh ∧ hh ≤ (c : Int) := ⟨hh0, by omega⟩
  have e2 : 0 ≤ l ∧ l ≤ ((hh.toNat : Nat) : Int) := ⟨h0, by omega⟩
  have e3 : (hh.toNat : Int) = hh := by omega
  rcases hl with ⟨rfl, rfl⟩ | ⟨k, rfl⟩ <;> rcases hhi with ⟨rfl, rfl⟩ | ⟨k', rfl⟩ <;>
    simp [Instr.sliceBounds, Instr.sliceBound, asIntOf, e1, e2, e3, h0, h1, hh0]
  all_goals first
    | rfl
    | (rw [if_pos (by omega)]; rfl)
    | (rw [if_pos ⟨by omega, by omega⟩]; simp)
    | skip

theorem run_slice_slice {t e : TypeId} {sz : Nat} (he : P.underlying t = some (.slice e)) (hsz : szOf P e = some sz) {A : Option Addr} {n c : Nat} {lo hi : Option Value} {l hh : Int}
    (hl : lo = none ∧ l = 0 ∨ ∃ k, lo = some (.int k l)) (hhi : hi = none ∧ hh = n ∨ ∃ k, hi = some (.int k hh)) (h0 : 0 ≤ l) (h1 : l ≤ hh) (h2 : hh ≤ n) (hnc : n ≤ c) (w : World) :
    (Instr.sliceAt t (.slice A n c) lo hi none).run P w = .ok (.slice (if c = l.toNat then A else A.map (·.add (l.toNat * sz))) (hh.toNat - l.toNat) (c - l.toNat)) w := by
  have hb := run_sliceBounds (P := P) (isS := true) hl hhi h0 h1 h2 hnc w
  simp [Instr.sliceAt, run_underlying he, Instr.slice, hb, run_szOf hsz]
theorem run_slice_string {t : TypeId} (he : P.underlying t = some .string) {s : ByteArray} {lo hi : Option Value} {l hh : Int}
    (hl : lo = none ∧ l = 0 ∨ ∃ k, lo = some (.int k l)) (hhi : hi = none ∧ hh = (s.size : Nat) ∨ ∃ k, hi = some (.int k hh)) (h0 : 0 ≤ l) (h1 : l ≤ hh) (h2 : hh ≤ s.size) (w : World) :
    (Instr.sliceAt t (.string s) lo hi none).run P w = .ok (.string (s.extract l.toNat hh.toNat)) w := by
  have hb := run_sliceBounds (P := P) (isS := false) (n := s.size) (c := s.size) hl hhi h0 h1 h2 (Nat.le_refl _) w
  simp [Instr.sliceAt, run_underlying he, Instr.slice, hb]

theorem slice_ok (h : Rel X μ H w) {t : TypeId} {sz : Nat} {hs hs' : List Hint} {x v : AV} {c : List Prop} {u : Value} {lo hi : Option Int} {lv hv : Option Value}
    (hlv : lo = none ∧ lv = none ∨ ∃ k n, lo = some n ∧ lv = some (.int k n)) (hhv : hi = none ∧ hv = none ∨ ∃ k n, hi = some n ∧ hv = some (.int k n))
    (hx : Rep μ H w (Fz X μ H w) x u) (hl : sliceA H hs sz x lo hi = .val v hs' c) (hc : All c)
    (ht : (P.underlying t = some .string ∧ ∃ s, x = .fz (.sc (.string s))) ∨ (∃ e, P.underlying t = some (.slice e) ∧ szOf P e = some sz ∧ ∀ s, x ≠ .fz (.sc (.string s)))) :
    ∃ u', (Instr.sliceAt t u lv hv none).run P w = .ok u' w ∧ Rep μ H w (Fz X μ H w) v u' := by
  unfold sliceA at hl
  cases hlen : lenA H x with
  | none => rw [hlen] at hl; cases hl
  | some n =>
    rw [hlen] at hl
    simp only at hl
    cases hchk : chk (0 ≤ lo.getD 0 ∧ lo.getD 0 ≤ hi.getD n ∧ hi.getD n ≤ n) hs with
    | none => rw [hchk] at hl; cases hl
    | some rc =>
      obtain ⟨r, c0⟩ := rc
      rw [hchk] at hl
      simp only at hl
      generalize hL : lo.getD 0 = l at *
      generalize hHH : hi.getD n = hh at *
      have hlo : lv = none ∧ l = 0 ∨ ∃ k, lv = some (.int k l) := by
        rcases hlv with ⟨rfl, rfl⟩ | ⟨k, m, rfl, rfl⟩
        · exact .inl ⟨rfl, hL.symm⟩
        · simp at hL; subst hL; exact .inr ⟨k, rfl⟩
      have hhi : hv = none ∧ hh = n ∨ ∃ k, hv = some (.int k hh) := by
        rcases hhv with ⟨rfl, rfl⟩ | ⟨k, m, rfl, rfl⟩
        · exact .inl ⟨rfl, hHH.symm⟩
        · simp at hHH; subst hHH; exact .inr ⟨k, rfl⟩
      rcases len_ok h hx hlen with ⟨s, rfl, rfl, rfl⟩ | ⟨A, m, cc, rfl, rfl, hmc, hns⟩
      · rcases ht with ⟨hu, _⟩ | ⟨e, _, _, hne⟩
        · simp only [AR.val.injEq] at hl
          obtain ⟨rfl, rfl, rfl⟩ := hl
          obtain ⟨h0, h1, h2⟩ := chk_spec hchk hc
          exact ⟨_, run_slice_string hu hlo hhi h0 h1 h2 w, rep_sc rfl⟩
        · exact absurd rfl (hne s)
      · rcases ht with ⟨_, s, rfl⟩ | ⟨e, hu, hsz, _⟩
        · exact absurd rfl (hns s)
        · have hrun : ∀ (h0 : 0 ≤ l ∧ l ≤ hh ∧ hh ≤ m), (Instr.sliceAt t (.slice A m cc) lv hv none).run P w = .ok (.slice (if cc = l.toNat then A else A.map (·.add (l.toNat * sz))) (hh.toNat - l.toNat) (cc - l.toNat)) w :=
            fun h0 => run_slice_slice hu hsz hlo hhi h0.1 h0.2.1 h0.2.2 hmc w
          cases hx with
          | fz hf =>
            rename_i f _hns
            cases f with
            | mp es cl => simp [lenA] at hlen
            | sc v0 =>
              obtain ⟨A0, c0', rfl, hn⟩ : ∃ A c, v0 = .slice A 0 c ∧ (m : Int) = 0 := by
                rcases lenA_sc hlen with ⟨s, rfl, _⟩ | h3
                · exact absurd rfl (hns s)
                · exact h3
              have e0 : ∀ h0 : 0 ≤ l ∧ l ≤ hh ∧ hh ≤ (m : Int), l.toNat = 0 ∧ hh.toNat = 0 := fun h0 => ⟨by omega, by omega⟩
              cases hf with
              | sc h1 =>
                split at hl
                · rename_i heq; simp at heq
                · rename_i heq
                  simp only [AV.fz.injEq, FV.sc.injEq, Value.slice.injEq] at heq
                  obtain ⟨rfl, _, rfl⟩ := heq
                  simp only [AR.val.injEq] at hl
                  obtain ⟨rfl, rfl, rfl⟩ := hl
                  have h0 := chk_spec hchk hc
                  obtain ⟨e1, e2⟩ := e0 h0
                  refine ⟨_, hrun h0, ?_⟩
                  rw [e1, e2]
                  exact rep_sc rfl
                · simp only [AR.val.injEq] at hl
                  obtain ⟨rfl, rfl, rfl⟩ := hl
                  have h0 := chk_spec hchk hc
                  obtain ⟨e1, e2⟩ := e0 h0
                  refine ⟨_, hrun h0, ?_⟩
                  rw [e1, e2]
                  exact .fz .nil
                · rename_i heq; simp at heq
                · rename_i heq; simp at heq
                · cases hl
            | sl sz' xs =>
              simp only at hl
              split at hl
              · rename_i hs2
                subst hs2
                simp only [AR.val.injEq] at hl
                obtain ⟨rfl, rfl, rfl⟩ := hl
                have h0 := chk_spec hchk hc
                refine ⟨_, hrun h0, .fz ?_⟩
                have hdl : (hh - l).toNat = hh.toNat - l.toNat := by omega
                cases hf with
                | nil =>
                  simp only [List.drop_nil, List.take_nil]
                  have : hh.toNat - l.toNat = 0 := by have := h0.2.2; simp at this; omega
                  rw [this]
                  exact .nil
                | sl U hcap hok hlens hcell hrep =>
                  rename_i ad
                  by_cases hz : hh.toNat - l.toNat = 0
                  · rw [hdl, hz, List.take_zero]; exact .nil
                  · have hcl : ¬ cc = l.toNat := by omega
                    rw [if_neg hcl, hdl]
                    have hl2 : ((xs.drop l.toNat).take (hh.toNat - l.toNat)).length = hh.toNat - l.toNat := by simp; omega
                    have hget : ∀ {i : Nat} {y : List FV}, ((xs.drop l.toNat).take (hh.toNat - l.toNat))[i]? = some y → xs[l.toNat + i]? = some y := by
                      intro i y hy
                      rw [List.getElem?_take] at hy
                      split at hy
                      · rwa [List.getElem?_drop] at hy
                      · cases hy
                    have := RepF.sl (w := w) (ok := Fz X μ H w) (sz := sz') (xs := (xs.drop l.toNat).take (hh.toNat - l.toNat)) (ad := ad.add (l.toNat * sz')) (c := cc - l.toNat) (fun i j => U (l.toNat + i) j) (by omega)
                      (by rw [show (ad.add (l.toNat * sz')).block = ad.block from by unfold Addr.add; split <;> rfl]; exact hok) (fun i y hy => hlens _ y (hget hy))
                      (fun i j y f hy hf' => by rw [add_add, ← Nat.add_assoc, ← Nat.add_mul]; exact hcell _ j y f (hget hy) hf') (fun i j y f hy hf' => hrep _ j y f (hget hy) hf')
                    rw [hl2] at this
                    exact this
              · cases hl
          | own hb hvb h1 =>
            rename_i b ty sz' els _hns
            simp only [hb] at hl
            split at hl
            · rename_i hs2
              subst hs2
              simp only [AR.val.injEq] at hl
              obtain ⟨rfl, rfl, rfl⟩ := hl
              have h0 := chk_spec hchk hc
              have hm : m = els.length := by simp only [lenA, hb, Option.some.injEq] at hlen; omega
              have hdl : (hh - l).toNat = hh.toNat - l.toNat := by omega
              refine ⟨_, hrun h0, ?_⟩
              rw [hdl]
              refine .vw hb (by omega) (by omega) (fun hpos => ?_)
              have hcl : ¬ cc = l.toNat := by omega
              rw [if_neg hcl]
              obtain ⟨hsz0, hels, vals, ho, hvv⟩ := h.blk b _ hb
              rcases ho.2 with ⟨e', hn⟩ | ⟨g, cap, cur, e', _⟩
              · omega
              · rw [← hvb] at e'
                cases e'
                refine ⟨g, by rw [← hvb]; rfl, ?_⟩
                simp [add_none]
            · cases hl
          | vw hb hm hcc hA => simp at hl
          | dead hx' hb hd h1 =>
            rename_i b _hns
            cases x <;> simp [refOf] at hx' <;> subst hx' <;> simp [lenA, hd] at hlen
          | _ => simp at hl
end
end Go.Proofs.Ai
set_option linter.unusedVariables false
set_option linter.unusedSimpArgs false
namespace Go.Proofs.Ai
open Go

structure TabOK (P : Program) (T : Tab) : Prop where
  meth : ∀ t m f, T.meth t m = some f → ∀ (x : Value) (w : World), (method (P.types.size + Made.depth) t x m).run P w = .ok (f, x) w
  eql : ∀ t, T.eqs t = true → ∀ (x y : Operand) (a b c d : ByteArray) (w : World), (do eqGuard .eql t x y (.agg #[.string a, .string b]) (.agg #[.string c, .string d]); binOp .eql t (.agg #[.string a, .string b]) (.agg #[.string c, .string d]) : Sem Value).run P w = .ok (.bool (a == c && b == d)) w
  sets : ∀ t, T.sets t = true → ∃ k e fs, P.underlying t = some (.map k e) ∧ P.underlying k = some (.struct fs) ∧ zeroOf P e = some (.bool false) ∧ (∀ q a b (w : World), (Instr.checkKey q 10000 k (.agg #[.string a, .string b])).run P w = .ok () w) ∧
    ∀ a b c d (w : World), (Op.equal k (.agg #[.string a, .string b]) (.agg #[.string c, .string d])).run P w = .ok (a == c && b == d) w
  neq : ∀ t, T.eqs t = true → ∀ (x y : Operand) (a b c d : ByteArray) (w : World), (do eqGuard .neq t x y (.agg #[.string a, .string b]) (.agg #[.string c, .string d]); binOp .neq t (.agg #[.string a, .string b]) (.agg #[.string c, .string d]) : Sem Value).run P w = .ok (.bool !(a == c && b == d)) w

section
variable {X : Nat → Prop} {μ : Nat → Value} {H : AHeap} {w : World} {P : Program} {T : Tab}

theorem rep_ifc_inv {ok : Nat → Prop} {t : TypeId} {x : AV} {u : Value} (h : Rep μ H w ok (.ifc t x) u) : ∃ v, u = .iface t v ∧ Rep μ H w ok x v := by
  cases h with
  | ifc h => exact ⟨_, rfl, h⟩
  | dead hx => simp [refOf] at hx
theorem rep_agg_inv {ok : Nat → Prop} {l : List AV} {u : Value} (h : Rep μ H w ok (.agg l) u) : ∃ vs : Array Value, u = .agg vs ∧ vs.size = l.length ∧ (∀ (i : Nat) (x : AV), l[i]? = some x → Rep μ H w ok x (vs.getD i undef)) ∧ (∀ i, i < vs.size → (vs.getD i undef).oneCell' = true) := by
  cases h with
  | agg hl h h1 => exact ⟨_, rfl, hl, h, h1⟩
  | dead hx => simp [refOf] at hx
theorem rep_pair_inv {ok : Nat → Prop} {a b : ByteArray} {u : Value} (h : Rep μ H w ok (.agg [.fz (.sc (.string a)), .fz (.sc (.string b))]) u) : u = .agg #[.string a, .string b] := by
  obtain ⟨vs, rfl, hl, hv, _⟩ := rep_agg_inv h
  have h0 := (rep_sc_inv (hv 0 _ rfl)).1
  have h1 := (rep_sc_inv (hv 1 _ rfl)).1
  congr 1
  apply Array.ext
  · simpa using hl
  · intro i hi hi'
    match i with
    | 0 => simpa [Array.getD_eq_getD_getElem?, hi] using h0
    | 1 => simpa [Array.getD_eq_getD_getElem?, hi] using h1
    | i + 2 => simp at hi'; omega
theorem toList_getD (vs : Array Value) (i : Nat) : vs.toList.getD i undef = vs.getD i undef := by simp [List.getD_eq_getElem?_getD, Array.getD_eq_getD_getElem?]

theorem sbin_run {op : BinOp} {a b v : Value} (h : sbin op a b = some v) (hb : ∀ p q, ¬ (a = .bool p ∧ b = .bool q)) {t : TypeId} (x y : Operand) : (do eqGuard op t x y a b; binOp op t a b : Sem Value).run P w = .ok v w ∧ v.oneCell' = true := by
  cases a <;> cases b <;> try (simp [sbin] at h; done)
  · exact absurd ⟨rfl, rfl⟩ (hb _ _)
  · rename_i k n k' m
    by_cases hs : op = .shl ∨ op = .shr
    · rcases hs with rfl | rfl
      · simp only [sbin] at h
        split at h
        · rename_i h0
          have h1 : ¬ m < 0 := by omega
          simp at h; subst h
          simp [eqGuard, binOp, Op.shift, h1, Value.oneCell']
        · cases h
      · simp only [sbin] at h
        split at h
        · rename_i h0
          have h1 : ¬ m < 0 := by omega
          simp at h; subst h
          simp [eqGuard, binOp, Op.shift, h1, Value.oneCell']
        · cases h
    · by_cases hk : k = k'
      · subst hk
        cases op <;> simp [sbin] at h hs <;> subst h <;> simp [eqGuard, binOp, Op.intArith, Op.intCmp, Op.intBits, Value.oneCell']
      · cases op <;> simp [sbin, hk] at h hs
  · rename_i s u
    simp only [sbin] at h
    cases op <;> simp at h <;> subst h <;> simp [eqGuard, binOp, Op.stringOp, Value.oneCell']

theorem run_eq_bool {t : TypeId} (ht : P.underlying t = some .bool) (x y : Operand) (p q : Bool) : (do eqGuard .eql t x y (.bool p) (.bool q); binOp .eql t (.bool p) (.bool q) : Sem Value).run P w = .ok (.bool (p == q)) w := by
  have : ∀ d, (Op.equalIn (d + 1) t (.bool p) (.bool q)).run P w = .ok (p == q) w := fun d => by simp [Op.equalIn, run_underlying ht]
  have h2 : (Op.equal t (.bool p) (.bool q)).run P w = .ok (p == q) w := this 9999
  simp [eqGuard, binOp, h2]
theorem run_ne_bool {t : TypeId} (ht : P.underlying t = some .bool) (x y : Operand) (p q : Bool) : (do eqGuard .neq t x y (.bool p) (.bool q); binOp .neq t (.bool p) (.bool q) : Sem Value).run P w = .ok (.bool !(p == q)) w := by
  have : ∀ d, (Op.equalIn (d + 1) t (.bool p) (.bool q)).run P w = .ok (p == q) w := fun d => by simp [Op.equalIn, run_underlying ht]
  have h2 : (Op.equal t (.bool p) (.bool q)).run P w = .ok (p == q) w := this 9999
  simp [eqGuard, binOp, h2]
theorem run_eq_nil {t tt : TypeId} {ms : Array (String × TypeId)} (ht : P.underlying t = some (.interface ms)) (x y : Operand) (v : Value) : (do eqGuard .eql t x y (.iface tt v) .nilIface; binOp .eql t (.iface tt v) .nilIface : Sem Value).run P w = .ok (.bool false) w := by
  have : ∀ d, (Op.equalIn (d + 1) t (.iface tt v) .nilIface).run P w = .ok false w := fun d => by simp [Op.equalIn, run_underlying ht]
  have h2 : (Op.equal t (.iface tt v) .nilIface).run P w = .ok false w := this 9999
  simp [eqGuard, binOp, h2]
theorem run_ne_nil {t tt : TypeId} {ms : Array (String × TypeId)} (ht : P.underlying t = some (.interface ms)) (x y : Operand) (v : Value) : (do eqGuard .neq t x y (.iface tt v) .nilIface; binOp .neq t (.iface tt v) .nilIface : Sem Value).run P w = .ok (.bool true) w := by
  have : ∀ d, (Op.equalIn (d + 1) t (.iface tt v) .nilIface).run P w = .ok false w := fun d => by simp [Op.equalIn, run_underlying ht]
  have h2 : (Op.equal t (.iface tt v) .nilIface).run P w = .ok false w := this 9999
  simp [eqGuard, binOp, h2]

theorem run_eq_nilSlice {t e : TypeId} (ht : P.underlying t = some (.slice e)) (x y : Operand) (A : Option Addr) (n c : Nat) : (do eqGuard .eql t x y (.slice A n c) (.slice none 0 0); binOp .eql t (.slice A n c) (.slice none 0 0) : Sem Value).run P w = .ok (.bool A.isNone) w := by
  have : ∀ d, (Op.equalIn (d + 1) t (.slice A n c) (.slice none 0 0)).run P w = .ok A.isNone w := fun d => by cases A <;> simp [Op.equalIn, run_underlying ht]
  have h2 : (Op.equal t (.slice A n c) (.slice none 0 0)).run P w = .ok A.isNone w := this 9999
  simp [eqGuard, binOp, h2]
theorem run_ne_nilSlice {t e : TypeId} (ht : P.underlying t = some (.slice e)) (x y : Operand) (A : Option Addr) (n c : Nat) : (do eqGuard .neq t x y (.slice A n c) (.slice none 0 0); binOp .neq t (.slice A n c) (.slice none 0 0) : Sem Value).run P w = .ok (.bool !A.isNone) w := by
  have : ∀ d, (Op.equalIn (d + 1) t (.slice A n c) (.slice none 0 0)).run P w = .ok A.isNone w := fun d => by cases A <;> simp [Op.equalIn, run_underlying ht]
  have h2 : (Op.equal t (.slice A n c) (.slice none 0 0)).run P w = .ok A.isNone w := this 9999
  simp [eqGuard, binOp, h2]

theorem nilA_spec (h : Rel X μ H w) {x : AV} {u : Value} (hx : Rep μ H w (Fz X μ H w) x u) {b : Bool} (hl : nilA H x = some b) : ∃ A n c, u = .slice A n c ∧ A.isNone = b := by
  unfold nilA at hl
  split at hl
  · cases hl
    obtain ⟨rfl, _⟩ := rep_sc_inv hx
    exact ⟨_, _, _, rfl, rfl⟩
  · cases hl
    cases hx with
    | fz hf => cases hf with
      | sl U hc hok hsz hcell hrep => exact ⟨_, _, _, rfl, rfl⟩
    | dead hx => simp [refOf] at hx
  · split at hl
    · rename_i hb
      cases hl
      cases hx with
      | own hb' hv h1 =>
        rw [hb] at hb'
        cases hb'
        obtain ⟨_, _, vals, ho, _⟩ := h.blk _ _ hb
        rw [hv]
        rcases ho.2 with ⟨_, hn⟩ | ⟨g, cap, cur, e, _⟩
        · simp at hn
        · rw [e]; exact ⟨_, _, _, rfl, rfl⟩
      | dead hx _ hd _ => simp [refOf] at hx; subst hx; rw [hb] at hd; cases hd
    · cases hl
  · cases hl

theorem valO_inv {hs hs' : List Hint} {y : Option AV} {v : AV} {c : List Prop} (h : valO hs y = .val v hs' c) : y = some v := by
  cases y with
  | none => simp [valO] at h
  | some z => simp [valO] at h; rw [h.1]

theorem bin_ok (h : Rel X μ H w) (hT : TabOK P T) {op : BinOp} {t : TypeId} {hs hs' : List Hint} {x y v : AV} {c : List Prop} {a b : Value} (ox oy : Operand)
    (hx : Rep μ H w (Fz X μ H w) x a) (hy : Rep μ H w (Fz X μ H w) y b) (hl : binA P T H op t hs x y = .val v hs' c) (hc : All c) : ∃ u, (do eqGuard op t ox oy a b; binOp op t a b : Sem Value).run P w = .ok u w ∧ Rep μ H w (Fz X μ H w) v u := by
  unfold binA at hl
  split at hl
  · obtain ⟨rfl, _⟩ := rep_sc_inv hy
    split at hl
    · rename_i e bb ht hn
      simp only [AR.val.injEq] at hl
      obtain ⟨rfl, rfl, rfl⟩ := hl
      obtain ⟨A, n, c, rfl, hA⟩ := nilA_spec h hx hn
      exact ⟨_, run_eq_nilSlice ht ox oy A n c, by rw [hA]; exact rep_sc rfl⟩
    · rename_i e bb ht hn
      simp only [AR.val.injEq] at hl
      obtain ⟨rfl, rfl, rfl⟩ := hl
      obtain ⟨A, n, c, rfl, hA⟩ := nilA_spec h hx hn
      exact ⟨_, run_ne_nilSlice ht ox oy A n c, by rw [hA]; exact rep_sc rfl⟩
    · cases hl
  · rename_i a' b'
    obtain ⟨rfl, hoa⟩ := rep_sc_inv hx
    obtain ⟨rfl, hob⟩ := rep_sc_inv hy
    split at hl
    · rename_i k n k' m
      split at hl
      · rename_i hk
        subst hk
        split at hl
        · rename_i r c0 hchk
          simp only [AR.val.injEq] at hl
          obtain ⟨rfl, rfl, rfl⟩ := hl
          have hm := chk_spec hchk hc
          exact ⟨_, by simp [eqGuard, binOp, Op.intDiv, hm], rep_sc rfl⟩
        · cases hl
      · cases hl
    · rename_i k n k' m
      split at hl
      · rename_i hk
        subst hk
        split at hl
        · rename_i r c0 hchk
          simp only [AR.val.injEq] at hl
          obtain ⟨rfl, rfl, rfl⟩ := hl
          have hm := chk_spec hchk hc
          exact ⟨_, by simp [eqGuard, binOp, Op.intDiv, hm], rep_sc rfl⟩
        · cases hl
      · cases hl
    · rename_i s u
      split at hl
      · rename_i r c0 hchk
        simp only [AR.val.injEq] at hl
        obtain ⟨rfl, rfl, rfl⟩ := hl
        have hm := chk_spec hchk hc
        refine ⟨_, ?_, rep_sc rfl⟩
        have : ¬ (((s.size + u.size : Nat) : Int) > IntKind.i64.max) := by
          have : IntKind.i64.max = 9223372036854775807 := by decide
          rw [this]; omega
        simp only [eqGuard, binOp, Op.stringOp]
        rw [if_neg this]
        simp
      · cases hl
    · rename_i p q
      split at hl
      · rename_i ht
        simp only [AR.val.injEq] at hl
        obtain ⟨rfl, rfl, rfl⟩ := hl
        exact ⟨_, run_eq_bool ht ox oy p q, rep_sc rfl⟩
      · cases hl
    · rename_i p q
      split at hl
      · rename_i ht
        simp only [AR.val.injEq] at hl
        obtain ⟨rfl, rfl, rfl⟩ := hl
        exact ⟨_, run_ne_bool ht ox oy p q, rep_sc rfl⟩
      · cases hl
    · cases hl
    · rename_i h1 h2 h3 h4 h5 h6
      have := valO_inv hl
      obtain ⟨v', hv', rfl⟩ := Option.map_eq_some_iff.1 this
      obtain ⟨hr, ho⟩ := sbin_run (P := P) (w := w) (t := t) hv' (fun p q hpq => by obtain ⟨rfl, rfl⟩ := hpq; first | exact h1 _ _ rfl rfl | exact h2 _ _ rfl rfl | exact h3 _ _ rfl rfl | exact h4 _ _ rfl rfl | exact h5 _ _ rfl rfl | exact h6 _ _ rfl rfl | exact absurd rfl (h1 _ _ rfl) | (simp [sbin] at hv'; done) | (cases op <;> simp_all [sbin])) ox oy
      exact ⟨_, hr, rep_sc ho⟩
  · rename_i l l'
    split at hl
    · rename_i he
      have pair : ∀ {bb : Bool}, eqCells l l' = some bb → ∃ p q r t, a = .agg #[.string p, .string q] ∧ b = .agg #[.string r, .string t] ∧ bb = (p == r && q == t) := by
        intro bb hq
        unfold eqCells at hq
        split at hq
        · cases hq
          exact ⟨_, _, _, _, rep_pair_inv hx, rep_pair_inv hy, rfl⟩
        · cases hq
      split at hl
      · rename_i bb hq
        simp only [AR.val.injEq] at hl
        obtain ⟨rfl, rfl, rfl⟩ := hl
        obtain ⟨p, q, r, t', rfl, rfl, rfl⟩ := pair hq
        exact ⟨_, hT.eql t he ox oy p q r t' w, rep_sc rfl⟩
      · rename_i bb hq
        simp only [AR.val.injEq] at hl
        obtain ⟨rfl, rfl, rfl⟩ := hl
        obtain ⟨p, q, r, t', rfl, rfl, rfl⟩ := pair hq
        exact ⟨_, hT.neq t he ox oy p q r t' w, rep_sc rfl⟩
      · cases hl
    · cases hl
  · obtain ⟨v0, rfl, _⟩ := rep_ifc_inv hx
    obtain ⟨rfl, _⟩ := rep_sc_inv hy
    split at hl
    · rename_i ms ht
      simp only [AR.val.injEq] at hl
      obtain ⟨rfl, rfl, rfl⟩ := hl
      exact ⟨_, run_eq_nil ht ox oy v0, rep_sc rfl⟩
    · rename_i ms ht
      simp only [AR.val.injEq] at hl
      obtain ⟨rfl, rfl, rfl⟩ := hl
      exact ⟨_, run_ne_nil ht ox oy v0, rep_sc rfl⟩
    · cases hl
  · cases hl

/-! ### conversions -/
theorem bytesF_spec : ∀ {els : List (List FV)} {l : List Int}, bytesF els = some l → l.length = els.length ∧ ∀ i, i < els.length → els[i]? = some [.sc (.int .u8 (l.getD i 0))]
  | [], l, h => by simp [bytesF] at h; subst h; simp
  | x :: r, l, h => by
    unfold bytesF at h
    split at h
    · rename_i heq; cases heq
    · rename_i n r' heq
      simp only [List.cons.injEq] at heq
      obtain ⟨rfl, rfl⟩ := heq
      split at h
      · rename_i l' hl'
        cases h
        obtain ⟨h1, h2⟩ := bytesF_spec hl'
        refine ⟨by simp [h1], fun i hi => ?_⟩
        cases i with
        | zero => rfl
        | succ i => simpa using h2 i (by simpa using hi)
      · cases h
    · cases h

theorem conv_ok (h : Rel X μ H w) {src dst : TypeId} {hs hs' : List Hint} {x v : AV} {c : List Prop} {a : Value} (hx : Rep μ H w (Fz X μ H w) x a) (hl : convA P H src dst hs x = .val v hs' c) (hc : All c) : ∃ u, (convert src dst a).run P w = .ok u w ∧ Rep μ H w (Fz X μ H w) v u := by
  unfold convA at hl
  split at hl
  · rename_i k0 k k1 n h1 h2
    obtain ⟨rfl, _⟩ := rep_sc_inv hx
    simp only [AR.val.injEq] at hl
    obtain ⟨rfl, rfl, rfl⟩ := hl
    exact ⟨_, by simp [convert, run_underlying h1, run_underlying h2, Conv.intToInt], rep_sc rfl⟩
  · rename_i s h1 h2
    obtain ⟨rfl, _⟩ := rep_sc_inv hx
    simp only [AR.val.injEq] at hl
    obtain ⟨rfl, rfl, rfl⟩ := hl
    exact ⟨_, by simp [convert, run_underlying h1, run_underlying h2], rep_sc rfl⟩
  · rename_i e h1 h2
    split at hl
    · rename_i he
      split at hl
      · rename_i els hels
        have key : ∀ l : List Int, bytesF els = some l → ∃ u, (convert src dst a).run P w = .ok u w ∧ Rep μ H w (Fz X μ H w) (.sc (.string ⟨(l.map fun n => UInt8.ofNat n.toNat).toArray⟩)) u := by
          intro l hbl
          obtain ⟨A, cc, vals, R⟩ := els_read h hx hels
          obtain ⟨hlen, hb⟩ := bytesF_spec hbl
          have hcell : ∀ ad, A = some ad → ∀ i, i < els.length → w.cell? (ad.add i) = some (.int .u8 (l.getD i 0)) := by
            intro ad ha i hi
            have hx1 := hb i hi
            have hrep := R.reps i 0 _ _ hx1 rfl
            have hvl : i < vals.length := by rw [R.len]; omega
            have hvv : vals.getD (i * 1 + 0) undef = .int .u8 (l.getD i 0) := by
              generalize vals.getD (i * 1 + 0) undef = z at hrep
              cases hrep with
              | sc _ => rfl
            refine R.cells ad ha i _ ?_
            simp only [Nat.mul_one, Nat.add_zero, List.getD_eq_getElem?_getD, List.getElem?_eq_getElem hvl, Option.getD_some] at hvv
            rw [List.getElem?_eq_getElem hvl, hvv]
            simp [List.getD_eq_getElem?_getD]
          refine ⟨_, ?_, rep_sc rfl⟩
          rw [R.val]
          cases A with
          | none =>
            have h0 := R.none rfl
            subst h0
            obtain rfl := List.eq_nil_of_length_eq_zero hlen
            exact run_convert_bytes_nil w src e h1 he _ _ dst h2
          | some ad =>
            rcases Nat.eq_zero_or_pos els.length with h0 | h0
            · have : els = [] := List.eq_nil_of_length_eq_zero h0
              subst this
              obtain rfl := List.eq_nil_of_length_eq_zero hlen
              simp [convert, run_underlying h1, run_underlying h2, run_underlying he, Conv.bytesToString, loadCells, loadCellsFrom]
              rfl
            · have hsp : ad.spot = none := by
                have := hcell ad rfl 0 h0
                rw [add_zero] at this
                unfold World.cell? at this
                split at this
                · split at this
                  · cases this
                  · rename_i hs; simpa using hs
                · cases this
              obtain ⟨b, off, spot⟩ := ad
              simp only at hsp
              subst hsp
              have := run_convert_bytes_arg w src e h1 he b off els.length cc l hlen (fun i hi => by rw [← add_none]; exact hcell _ rfl i hi) dst h2
              exact this
        split at hl
        · simp only [AR.val.injEq] at hl
          obtain ⟨rfl, rfl, rfl⟩ := hl
          obtain ⟨l, hl⟩ := Option.isSome_iff_exists.1 hc.1
          have := key l hl
          unfold bytesS
          rw [hl]
          exact this
        · split at hl
          · rename_i l hbl
            simp only [AR.val.injEq] at hl
            obtain ⟨rfl, rfl, rfl⟩ := hl
            exact key l hbl
          · cases hl
      · cases hl
    · cases hl
  · cases hl

/-! ### a byte of a string -/
theorem run_index_string {t : TypeId} (ht : P.underlying t = some .string) {s : ByteArray} {k : IntKind} {i : Int} (h0 : 0 ≤ i) (h1 : i < (s.size : Int)) : (Instr.index t (.string s) (.int k i)).run P w = .ok (.int .u8 (s.data.toList.getD i.toNat 0).toNat) w := by
  have hlt : i.toNat < s.size := by omega
  have e : s[i.toNat]? = some (s[i.toNat]'hlt) := by simp [hlt]
  have e2 : s.data.toList.getD i.toNat 0 = s[i.toNat]'hlt := by
    rw [List.getD_eq_getElem?_getD, List.getElem?_eq_getElem (by simpa using hlt)]
    rfl
  rw [e2]
  simp [Instr.index, asIntOf, run_underlying ht, h0, e]
end
end Go.Proofs.Ai
set_option linter.unusedVariables false
set_option linter.unusedSimpArgs false
namespace Go.Proofs.Ai
open Go

/-! ### filling -/
theorem fold_set (off : Nat) : ∀ (vs : List Value) (k : Nat) (cells : Array Value), off + k + vs.length ≤ cells.size →
    ((vs.zipIdx k).foldl (fun (cs : Array Value) (p : Value × Nat) => cs.setIfInBounds (off + p.2) p.1) cells).toList = cells.toList.take (off + k) ++ vs ++ cells.toList.drop (off + k + vs.length)
  | [], k, cells, h => by simp
  | v :: rest, k, cells, h => by
    simp only [List.zipIdx_cons, List.foldl_cons]
    have h' : off + k + (rest.length + 1) ≤ cells.size := by simpa using h
    rw [fold_set off rest (k + 1) _ (by simp; omega), Array.toList_setIfInBounds]
    have e := list_seg_step cells.toList (off + k) v rest (by simp; omega)
    simpa [Nat.add_assoc] using e

/-- One part laid. -/
def layAt (l : List Value) (off : Nat) (vs : List Value) : List Value := l.take off ++ vs ++ l.drop (off + vs.length)
theorem layAt_length {l : List Value} {off : Nat} {vs : List Value} (h : off + vs.length ≤ l.length) : (layAt l off vs).length = l.length := by
  simp [layAt]; omega
theorem fill_step (place : Nat → Option (Nat × Nat)) (cells : Array Value) (i : Nat) (v : Value) (rest : List (Nat × Value)) {off size : Nat} (hp : place i = some (off, size)) (hs : v.cells.size = size) (hf : off + size ≤ cells.size) :
    Instr.fill place cells ((i, v) :: rest) = Instr.fill place (layAt cells.toList off v.cells.toList).toArray rest := by
  have e : (v.cells.zipIdx.foldl (fun (cs : Array Value) (p : Value × Nat) => cs.setIfInBounds (off + p.2) p.1) cells) = (layAt cells.toList off v.cells.toList).toArray := by
    rw [← Array.foldl_toList, Array.toList_zipIdx]
    have := fold_set off v.cells.toList 0 cells (by simp; omega)
    apply Array.ext'
    rw [this]
    simp [layAt]
  have hc : ¬ (v.cells.size ≠ size ∨ off + v.cells.size > cells.size) := by omega
  simp only [Instr.fill, hp]
  rw [if_neg (by simp; omega)]
  rw [← e]

theorem putAt_eq {α : Type} : ∀ (l : List α) (n : Nat) (cs : List α), n ≤ l.length → putAt l n cs = l.take n ++ cs ++ l.drop (n + cs.length)
  | l, 0, cs, _ => by simp [putAt]
  | [], n + 1, cs, h => by simp at h
  | x :: r, n + 1, cs, h => by
    have ih := putAt_eq r n cs (by simpa using h)
    simp only [putAt, ih]
    simp [Nat.add_right_comm]

section
variable {X : Nat → Prop} {μ : Nat → Value} {H : AHeap} {w : World} {ok : Nat → Prop}

/-- Cells against values. -/
def RepL (μ : Nat → Value) (H : AHeap) (w : World) (ok : Nat → Prop) (l : List AV) (vs : List Value) : Prop :=
  vs.length = l.length ∧ (∀ (i : Nat) (x : AV), l[i]? = some x → Rep μ H w ok x (vs.getD i undef)) ∧ ∀ v ∈ vs, v.oneCell' = true

theorem RepL.of_cells {x : AV} {u : Value} (h : Rep μ H w ok x u) (h1 : ones (cellsA x) = true) : RepL μ H w ok (cellsA x) u.cells.toList := by
  obtain ⟨a, b, c⟩ := rep_cells h h1
  refine ⟨by simpa using a, fun i y hy => by rw [toList_getD]; exact b i y hy, fun v hv => ?_⟩
  obtain ⟨i, hi, rfl⟩ := List.getElem_of_mem hv
  have hi' : i < u.cells.size := by simpa using hi
  have := c i hi'
  simpa [Array.getD_eq_getD_getElem?, hi'] using this
theorem RepL.get {l : List AV} {vs : List Value} (h : RepL μ H w ok l vs) {i : Nat} {x : AV} (hx : l[i]? = some x) : ∃ v, vs[i]? = some v ∧ Rep μ H w ok x v ∧ v.oneCell' = true := by
  have hi : i < vs.length := by rw [h.1]; exact (List.getElem?_eq_some_iff.1 hx).1
  have hr := h.2.1 i x hx
  rw [List.getD_eq_getElem?_getD, List.getElem?_eq_getElem hi] at hr
  exact ⟨vs[i], List.getElem?_eq_getElem hi, hr, h.2.2 _ (List.getElem_mem hi)⟩
theorem RepL.mk {l : List AV} {vs : List Value} (hl : vs.length = l.length) (h : ∀ (i : Nat) (x : AV) (v : Value), l[i]? = some x → vs[i]? = some v → Rep μ H w ok x v ∧ v.oneCell' = true) : RepL μ H w ok l vs := by
  refine ⟨hl, fun i x hx => ?_, fun v hv => ?_⟩
  · have hi : i < vs.length := by rw [hl]; exact (List.getElem?_eq_some_iff.1 hx).1
    rw [List.getD_eq_getElem?_getD, List.getElem?_eq_getElem hi]
    exact (h i x vs[i] hx (List.getElem?_eq_getElem hi)).1
  · obtain ⟨i, hi, rfl⟩ := List.getElem_of_mem hv
    exact (h i (l[i]'(by omega)) vs[i] (List.getElem?_eq_getElem _) (List.getElem?_eq_getElem hi)).2
theorem RepL.lay {l cs : List AV} {vs us : List Value} (h : RepL μ H w ok l vs) (h' : RepL μ H w ok cs us) {off : Nat} (hf : off + cs.length ≤ l.length) : RepL μ H w ok (putAt l off cs) (layAt vs off us) := by
  have hl := h.1
  have hl' := h'.1
  rw [putAt_eq l off cs (by omega)]
  refine .mk (by simp [layAt]; omega) (fun i x v hx hv => ?_)
  have e1 : (l.take off).length = off := by simp; omega
  have e2 : (vs.take off).length = off := by simp; omega
  unfold layAt at hv
  rw [List.append_assoc] at hx hv
  rcases Nat.lt_or_ge i off with hi | hi
  · rw [List.getElem?_append_left (by omega), List.getElem?_take, if_pos hi] at hx hv
    obtain ⟨v', h1, h2⟩ := h.get hx
    rw [hv] at h1
    cases h1
    exact h2
  · rw [List.getElem?_append_right (by omega)] at hx hv
    rw [e1] at hx
    rw [e2] at hv
    rcases Nat.lt_or_ge (i - off) cs.length with hj | hj
    · rw [List.getElem?_append_left (by omega)] at hx hv
      obtain ⟨v', h1, h2⟩ := h'.get hx
      rw [hv] at h1
      cases h1
      exact h2
    · rw [List.getElem?_append_right (by omega)] at hx hv
      rw [List.getElem?_drop] at hx hv
      rw [hl'] at hv
      obtain ⟨v', h1, h2⟩ := h.get hx
      rw [hv] at h1
      cases h1
      exact h2

/-- Parts filled in, on both sides. -/
theorem fill_ok {ts : List AV} {a : Act} (hev : ∀ x, Rep μ H w ok (evalA ts x) (a.eval x)) (place : Nat → Option (Nat × Nat)) : ∀ (parts : List (Nat × Operand)) (cells cs : List AV) (vs : List Value), RepL μ H w ok cells vs →
    fillA place cells (parts.map fun p => (p.1, evalA ts p.2)) = some cs → ∃ us, Instr.fill place vs.toArray (parts.map fun p => (p.1, a.eval p.2)) = some us.toArray ∧ RepL μ H w ok cs us
  | [], cells, cs, vs, h, hf => by simp [fillA] at hf; subst hf; exact ⟨vs, rfl, h⟩
  | (i, x) :: rest, cells, cs, vs, h, hf => by
    simp only [List.map_cons, fillA] at hf
    split at hf
    · cases hf
    · rename_i off size hp
      split at hf
      · rename_i hc
        have hR := RepL.of_cells (hev x) hc.2.1
        have hs : (a.eval x).cells.size = size := by have := hR.1; simp at this; omega
        have hlay := h.lay hR (off := off) (by omega)
        obtain ⟨us, h1, h2⟩ := fill_ok hev place rest _ cs _ hlay hf
        refine ⟨us, ?_, h2⟩
        simp only [List.map_cons]
        rw [fill_step place vs.toArray i (a.eval x) _ hp hs (by have := h.1; simp; omega)]
        exact h1
      · cases hf

/-! ### many rows frozen -/
theorem kill1_spec (h : Rel X μ H w) (ts : List AV) (b : Nat) : let x := kill1 (ts, H) b
    Rel X μ x.2 w ∧ Keep H.length μ H w μ x.2 w ∧ (∀ t v, Rep μ H w (Fz X μ H w) (getT ts t) v → Rep μ x.2 w (Fz X μ x.2 w) (getT x.1 t) v) ∧ x.1.length = ts.length ∧ x.2.length = H.length ∧
      (∀ c B', getH x.2 c = some B' → ∃ B, getH H c = some B ∧ sameKind B B') ∧ (∀ ty sz els, getH H b = some (.row ty sz els) → getH x.2 b = none) ∧ (∀ k, Fz X μ H w k → Fz X μ x.2 w k) := by
  intro x
  have hx : x = kill1 (ts, H) b := rfl
  clear_value x
  unfold kill1 at hx
  simp only at hx
  split at hx
  · rename_i ty sz els hb
    obtain ⟨h1, h2, h3⟩ := h.kill hb
    subst hx
    refine ⟨h1, h2, fun t v hv => ?_, subL_length _ _ _, by simp [length_setH, subH_length], fun c B' hc => ?_, fun _ _ _ _ => ?_, fun k hk => ⟨hk.1, hk.2.1, h2.free k hk.1 hk.2.2⟩⟩
    · simp only [subL_getT]; exact h3 _ _ hv
    · exact (h2.old c B' (by have := getH_lt hc; simpa [length_setH, subH_length] using this) hc).2
    · exact getH_setH_self (by rw [subH_length]; exact getH_lt hb)
  · rename_i hn
    subst hx
    exact ⟨h, Keep.refl (Nat.le_refl _), fun t v hv => hv, rfl, rfl, fun c B' hc => ⟨B', hc, sameKind.refl _⟩, fun ty sz els hb => absurd hb (hn ty sz els), fun k hk => hk⟩

theorem killAll_spec : ∀ (ks : List Nat) {H : AHeap} {ts : List AV}, Rel X μ H w → let x := killAll (ts, H) ks
    Rel X μ x.2 w ∧ Keep H.length μ H w μ x.2 w ∧ (∀ t v, Rep μ H w (Fz X μ H w) (getT ts t) v → Rep μ x.2 w (Fz X μ x.2 w) (getT x.1 t) v) ∧ x.1.length = ts.length ∧ x.2.length = H.length ∧
      (∀ c B', getH x.2 c = some B' → ∃ B, getH H c = some B ∧ sameKind B B') ∧ (∀ b ∈ ks, ∀ ty sz els, getH H b = some (.row ty sz els) → getH x.2 b = none) ∧ (∀ k, Fz X μ H w k → Fz X μ x.2 w k)
  | [], H, ts, h => ⟨h, Keep.refl (Nat.le_refl _), fun t v hv => hv, rfl, rfl, fun c B' hc => ⟨B', hc, sameKind.refl _⟩, fun b hb => (by cases hb), fun k hk => hk⟩
  | b :: r, H, ts, h => by
    obtain ⟨h1, h2, h3, h4, h5, h6, h7, h8⟩ := kill1_spec h ts b
    generalize hy : kill1 (ts, H) b = y at *
    obtain ⟨ts1, H1⟩ := y
    simp only at h1 h2 h3 h4 h5 h6 h7 h8
    obtain ⟨g1, g2, g3, g4, g5, g6, g7, g8⟩ := killAll_spec r (ts := ts1) h1
    intro x
    have hx : x = killAll (ts1, H1) r := by show killAll (kill1 (ts, H) b) r = _; rw [hy]
    rw [← hx] at g1 g2 g3 g4 g5 g6 g7 g8
    refine ⟨g1, h2.trans (by rw [← h5]; exact g2), fun t v hv => g3 t v (h3 t v hv), g4.trans h4, g5.trans h5, fun c B' hc => ?_, fun c hc ty sz els hb => ?_, fun k hk => g8 k (h8 k hk)⟩
    · obtain ⟨B1, hB1, s1⟩ := g6 c B' hc
      obtain ⟨B0, hB0, s0⟩ := h6 c B1 hB1
      exact ⟨B0, hB0, s0.trans s1⟩
    · have dead : getH H1 c = none → getH x.2 c = none := fun hn => by
        cases h' : getH x.2 c with
        | none => rfl
        | some B' => obtain ⟨B1, hB1, _⟩ := g6 c B' h'; rw [hn] at hB1; cases hB1
      rcases List.mem_cons.1 hc with rfl | hc'
      · exact dead (h7 ty sz els hb)
      · cases h1c : getH H1 c with
        | none => exact dead h1c
        | some B1 =>
          obtain ⟨B0, hB0, s0⟩ := h6 c B1 h1c
          rw [hb] at hB0
          cases hB0
          cases B1 with
          | var => cases s0
          | obj => cases s0
          | row ty1 sz1 els1 => exact g7 c hc' _ _ _ h1c

/-- Cells as frozen data, once the rows among them have died. -/
theorem frozen_ok (h : Rel X μ H w) {H1 : AHeap} (hfz : ∀ k, Fz X μ H w k → Fz X μ H1 w k) (hsub : ∀ c B', getH H1 c = some B' → ∃ B, getH H c = some B ∧ sameKind B B') :
    ∀ {cs : List AV} {fs : List FV} {ks : List Nat} {vs : List Value}, frozenCells H cs = some (fs, ks) → (∀ b ∈ ks, getH H1 b = none) → RepL μ H w (Fz X μ H w) cs vs →
      fs.length = cs.length ∧ ∀ (j : Nat) (f : FV), fs[j]? = some f → RepF w (Fz X μ H1 w) f (vs.getD j undef)
  | [], fs, ks, vs, hf, _, _ => by simp [frozenCells] at hf; obtain ⟨rfl, rfl⟩ := hf; simp
  | x :: r, fs, ks, vs, hf, hk, hv => by
    have tail : ∀ {fs' : List FV} {ks' : List Nat}, frozenCells H r = some (fs', ks') → (∀ b ∈ ks', getH H1 b = none) → fs'.length = r.length ∧ ∀ (j : Nat) (f : FV), fs'[j]? = some f → RepF w (Fz X μ H1 w) f (vs.getD (j + 1) undef) := by
      intro fs' ks' hf' hk'
      cases vs with
      | nil => have := hv.1; simp at this
      | cons u vs =>
        have := frozen_ok h hfz hsub (vs := vs) hf' hk' ⟨by have := hv.1; simpa using this, fun i x hx => by have := hv.2.1 (i + 1) x (by simpa using hx); simpa using this, fun v hm => hv.2.2 v (List.mem_cons_of_mem _ hm)⟩
        simpa using this
    have head := hv.2.1 0 x rfl
    unfold frozenCells at hf
    split at hf
    · rename_i heq; cases heq
    · rename_i f r' heq
      simp only [List.cons.injEq] at heq
      obtain ⟨rfl, rfl⟩ := heq
      split at hf
      · rename_i fs' ks' hf'
        cases hf
        obtain ⟨t1, t2⟩ := tail hf' hk
        refine ⟨by simp [t1], fun j f' hj => ?_⟩
        cases j with
        | zero =>
          simp at hj
          subst hj
          cases head with
          | fz hF => exact hF.okIff hfz
          | dead hx => simp [refOf] at hx
        | succ j => exact t2 j f' (by simpa using hj)
      · cases hf
    · rename_i b r' heq
      simp only [List.cons.injEq] at heq
      obtain ⟨rfl, rfl⟩ := heq
      split at hf
      · rename_i ty sz els fs' ks' hb hf'
        cases hf
        obtain ⟨t1, t2⟩ := tail hf' (fun c hc => hk c (List.mem_cons_of_mem _ hc))
        refine ⟨by simp [t1], fun j f' hj => ?_⟩
        cases j with
        | zero =>
          simp at hj
          subst hj
          have hd := hk b List.mem_cons_self
          cases head with
          | own hb' he h1 =>
            rw [he]
            refine row_frozen (h.blk b _ hb) (fun k hk => ⟨hfz k hk, rfl⟩) (fun k hk => ⟨⟨h.lt hb hk, h.notX b _ k hb hk, ?_⟩, rfl⟩)
            rintro ⟨c, B', hc, e⟩
            obtain ⟨B0, hB0, _⟩ := hsub c B' hc
            have := h.dis c b _ _ k hB0 hb e hk
            subst this
            rw [hd] at hc
            cases hc
          | dead hx hlt hn _ => simp [refOf] at hx; subst hx; rw [hb] at hn; cases hn
        | succ j => exact t2 j f' (by simpa using hj)
      · cases hf
    · cases hf
end
end Go.Proofs.Ai
set_option linter.unusedVariables false
set_option linter.unusedSimpArgs false
namespace Go.Proofs.Ai
open Go

theorem flatten_get {α : Type} {sz : Nat} : ∀ (L : List (List α)), (∀ (i : Nat) (x : List α), L[i]? = some x → x.length = sz) → ∀ (i j : Nat) (x : List α) (y : α), L[i]? = some x → x[j]? = some y → L.flatten[i * sz + j]? = some y
  | [], _, i, j, x, y, h, _ => by simp at h
  | z :: r, hl, i, j, x, y, h, hy => by
    have hz : z.length = sz := hl 0 z rfl
    cases i with
    | zero =>
      simp at h
      subst h
      have hj : j < z.length := (List.getElem?_eq_some_iff.1 hy).1
      simp only [List.flatten_cons, Nat.zero_mul, Nat.zero_add]
      rw [List.getElem?_append_left hj]
      exact hy
    | succ i =>
      have ih := flatten_get r (fun i x hx => hl (i + 1) x (by simpa using hx)) i j x y (by simpa using h) hy
      simp only [List.flatten_cons]
      rw [List.getElem?_append_right (by rw [hz, Nat.add_mul]; omega), hz]
      rw [show (i + 1) * sz + j - sz = i * sz + j from by rw [Nat.add_mul]; omega]
      exact ih
theorem flatten_length {α : Type} {sz : Nat} : ∀ (L : List (List α)), (∀ (i : Nat) (x : List α), L[i]? = some x → x.length = sz) → L.flatten.length = L.length * sz
  | [], _ => by simp
  | z :: r, hl => by
    have ih := flatten_length r (fun i x hx => hl (i + 1) x (by simpa using hx))
    simp only [List.flatten_cons, List.length_append, List.length_cons, ih, hl 0 z rfl, Nat.add_mul]
    omega

theorem fill_seq {sz : Nat} : ∀ (vs : List Value) (i0 : Nat) (done rest : List Value), done.length = i0 * sz → rest.length = vs.length * sz → (∀ v ∈ vs, v.cells.size = sz) →
    Instr.fill (fun i => some (i * sz, sz)) (done ++ rest).toArray ((vs.zipIdx i0).map fun p => (p.2, p.1)) = some (done ++ (vs.map (·.cells.toList)).flatten).toArray
  | [], i0, done, rest, hd, hr, _ => by
    have : rest = [] := List.eq_nil_of_length_eq_zero (by simpa using hr)
    subst this
    simp [Instr.fill]
  | v :: vs, i0, done, rest, hd, hr, hv => by
    have hvs := hv v List.mem_cons_self
    have hr' : rest.length = (vs.length + 1) * sz := by simpa using hr
    rw [Nat.add_mul, Nat.one_mul] at hr'
    simp only [List.zipIdx_cons, List.map_cons]
    rw [fill_step (off := i0 * sz) (size := sz) _ _ _ _ _ rfl hvs (by simp; omega)]
    have e : layAt (done ++ rest).toArray.toList (i0 * sz) v.cells.toList = (done ++ v.cells.toList) ++ rest.drop sz := by
      simp only [layAt]
      have h1 : (done ++ rest).take (i0 * sz) = done := by rw [← hd, List.take_left]
      have h2 : (done ++ rest).drop (i0 * sz + v.cells.toList.length) = rest.drop sz := by
        rw [List.drop_append, ← hd, List.drop_eq_nil_of_le (by omega)]
        simp [hvs]
      rw [h1, h2]
    rw [e, fill_seq vs (i0 + 1) (done ++ v.cells.toList) (rest.drop sz) (by simp [hd, hvs, Nat.add_mul]) (by simp; omega) (fun u hu => hv u (List.mem_cons_of_mem _ hu))]
    simp

theorem parts_zip {α : Type} : ∀ (l : List (Nat × α)) (k : Nat), l.map (·.1) = (List.range l.length).map (k + ·) → l = ((l.map (·.2)).zipIdx k).map fun p => (p.2, p.1)
  | [], _, _ => rfl
  | (i, x) :: r, k, h => by
    rw [List.length_cons, List.range_succ_eq_map] at h
    simp only [List.map_cons, List.map_map, List.cons.injEq, Nat.add_zero] at h
    obtain ⟨rfl, h⟩ := h
    have ih := parts_zip r (i + 1) (by rw [h]; apply List.map_congr_left; intro a _; simp; omega)
    simp only [List.map_cons, List.zipIdx_cons]
    rw [← ih]

section
variable {X : Nat → Prop} {μ : Nat → Value} {H : AHeap} {w : World} {P : Program}

theorem frozenCells_ones {H : AHeap} : ∀ {cs : List AV} {x : List FV × List Nat}, frozenCells H cs = some x → ones cs = true
  | [], _, _ => rfl
  | y :: r, x, h => by
    unfold frozenCells at h
    split at h
    · rename_i heq; cases heq
    · rename_i f r' heq
      simp only [List.cons.injEq] at heq
      obtain ⟨rfl, rfl⟩ := heq
      split at h
      · rename_i fs ks hf
        have := frozenCells_ones hf
        simpa [ones, Ai.one] using this
      · cases h
    · rename_i b r' heq
      simp only [List.cons.injEq] at heq
      obtain ⟨rfl, rfl⟩ := heq
      split at h
      · rename_i ty sz els fs ks hb hf
        have := frozenCells_ones hf
        simpa [ones, Ai.one] using this
      · cases h
    · cases h

theorem frozenCells_rows {H : AHeap} : ∀ {cs : List AV} {fs : List FV} {ks : List Nat}, frozenCells H cs = some (fs, ks) → ∀ b ∈ ks, ∃ ty sz els, getH H b = some (.row ty sz els)
  | [], fs, ks, h, b, hb => by simp [frozenCells] at h; rw [h.2] at hb; cases hb
  | y :: r, fs, ks, h, b, hb => by
    unfold frozenCells at h
    split at h
    · rename_i heq; cases heq
    · rename_i f r' heq
      simp only [List.cons.injEq] at heq
      obtain ⟨rfl, rfl⟩ := heq
      split at h
      · rename_i fs' ks' hf
        cases h
        exact frozenCells_rows hf b hb
      · cases h
    · rename_i c r' heq
      simp only [List.cons.injEq] at heq
      obtain ⟨rfl, rfl⟩ := heq
      split at h
      · rename_i ty sz els fs' ks' hc hf
        cases h
        rcases List.mem_cons.1 hb with rfl | hb'
        · exact ⟨_, _, _, hc⟩
        · exact frozenCells_rows hf b hb'
      · cases h
    · cases h

theorem elsOf_spec {H : AHeap} : ∀ {l : List (List AV)} {els : List (List FV)} {ks : List Nat}, elsOf H l = some (els, ks) → els.length = l.length ∧ (∀ (i : Nat) (cs : List AV), l[i]? = some cs → ∃ fs ks', els[i]? = some fs ∧ frozenCells H cs = some (fs, ks') ∧ ∀ b ∈ ks', b ∈ ks) ∧ ∀ b ∈ ks, ∃ ty sz e, getH H b = some (.row ty sz e)
  | [], els, ks, h => by simp [elsOf] at h; obtain ⟨rfl, rfl⟩ := h; simp
  | x :: r, els, ks, h => by
    unfold elsOf at h
    split at h
    · rename_i fs k1 els' k2 hf he
      cases h
      obtain ⟨h1, h2, h3⟩ := elsOf_spec he
      refine ⟨by simp [h1], fun i cs hi => ?_, fun b hb => ?_⟩
      · cases i with
        | zero => simp at hi; subst hi; exact ⟨fs, k1, rfl, hf, fun b hb => List.mem_append_left _ hb⟩
        | succ i =>
          obtain ⟨fs', k', a, b, c⟩ := h2 i cs (by simpa using hi)
          exact ⟨fs', k', by simpa using a, b, fun y hy => List.mem_append_right _ (c y hy)⟩
      · rcases List.mem_append.1 hb with hb | hb
        · exact frozenCells_rows hf b hb
        · exact h3 b hb
    · cases h

theorem alloc_ext (w : World) (o : Obj) : Ext w (w.alloc o) := ⟨by simp, rfl, ⟨rfl, Nat.le_refl _⟩, rfl, fun k hk => heap_alloc_old w o k hk⟩
theorem alloc_at (w : World) (cur : Array Value) (t : TypeId) : (w.alloc (.cells cur t)).heap[w.heap.size]? = some (.cells cur t (0, 0)) := heap_alloc_new w _

/-- A variable made. -/
theorem made_var {ok : Nat → Prop} {cells : List AV} {vs : List Value} (h : RepL μ H w ok cells vs) (t : TypeId) : Made μ H w ok (w.alloc (.cells vs.toArray t)) (.pointer (some ⟨w.heap.size, 0, none⟩)) (.var t cells) := by
  refine ⟨w.heap.size, vs.toArray, rfl, alloc_at w _ t, by simpa using h.1, fun i x hx => ?_⟩
  obtain ⟨v, hv, hr, h1⟩ := h.get hx
  have : vs.toArray.getD i undef = v := by simp [Array.getD_eq_getD_getElem?, hv]
  rw [this]
  exact ⟨hr, h1⟩

theorem rep_zero {ok : Nat → Prop} {l : List Value} (h : l.all (·.oneCell') = true) : RepL μ H w ok (l.map AV.sc) l := by
  refine .mk (by simp) (fun i x v hx hv => ?_)
  rw [List.getElem?_map, hv] at hx
  simp at hx
  subst hx
  have := List.all_eq_true.1 h v (List.mem_of_getElem? hv)
  exact ⟨rep_sc this, this⟩

/-- A literal slice made. -/
theorem run_buildSlice {t e : TypeId} {sz len : Nat} (ht : P.underlying t = some (.slice e)) (hsz : szOf P e = some sz) (hz : ∃ z, zeroOf P e = some z ∧ z.cells.size = sz) (hs0 : 0 < sz) (hlim : len * sz ≤ 16777216) (vs : List Value) (hvs : ∀ v ∈ vs, v.cells.size = sz) (hl : vs.length = len) (parts : Array (Nat × Value))
    (hp : parts.toList = vs.zipIdx.map fun p => (p.2, p.1)) :
    (Instr.buildSlice t len parts).run P w = .ok (.slice (some ⟨w.heap.size, 0, none⟩) len len) (w.alloc (.cells (vs.map (·.cells.toList)).flatten.toArray e)) := by
  obtain ⟨z, hz1, hz2⟩ := hz
  have hf := fill_seq (sz := sz) vs 0 [] (((Array.range (len * sz)).map (z.cells[· % z.cells.size]!)).toList) (by simp) (by simp [hl]) hvs
  simp only [List.nil_append, Array.toArray_toList] at hf
  rw [← hp] at hf
  have h24 : ¬ 2 ^ 24 < len * sz := by omega
  by_cases h0 : len * sz = 0
  · have hl0 : len = 0 := by rcases Nat.mul_eq_zero.1 h0 with h | h; · exact h
                             · omega
    subst hl0
    have : vs = [] := List.eq_nil_of_length_eq_zero hl
    subst this
    simp only [List.zipIdx_nil, List.map_nil] at hp
    simp [Instr.buildSlice, run_underlying ht, run_szOf hsz, hp, Instr.fill, newRow]
    congr 1
    rw [Array.eq_empty_of_size_eq_zero (xs := Array.map (fun _ => (default : Value)) (Array.range 0)) (by simp)]
  · simp [Instr.buildSlice, run_underlying ht, run_szOf hsz, run_zeroOf hz1, h24, h0, newRow, hf]
end
end Go.Proofs.Ai
set_option linter.unusedVariables false
set_option linter.unusedSimpArgs false
namespace Go.Proofs.Ai
open Go

theorem blkOf_own {v : Value} (h : ∃ A n c, v = .slice A n c) : blkOf v = v.ownBlock := by
  obtain ⟨A, n, c, rfl⟩ := h
  cases A <;> rfl
theorem ownsRow_slice {w : World} {base : Nat} {e : TypeId} {size n : Nat} {v : Value} {xs : List Value} (h : w.ownsRow base e size v n xs) : ∃ A n c, v = .slice A n c := by
  rcases h.2 with ⟨rfl, _⟩ | ⟨g, cap, cur, rfl, _⟩ <;> exact ⟨_, _, _, rfl⟩

section
variable {X : Nat → Prop} {μ : Nat → Value} {H : AHeap} {w : World} {P : Program}

theorem run_append_empty {t ty e : TypeId} {i : TypeInfo} (ht : P.underlying t = some (.slice e)) (hi : P.info? e = some i) {base : Nat} {v : Value} {n : Nat} {xs : List Value} (hown : w.ownsRow base e i.size v n xs) (c : Nat) :
    (Builtin.append_ #[t, t] ty #[v, .slice none 0 c]).run P w = .ok v w := by
  rcases hown.2 with ⟨rfl, rfl⟩ | ⟨g, cap, cur, rfl, _, _, hnc, _⟩
  · simp [Builtin.append_, run_underlying ht, sizeOf, typeInfo, hi, Builtin.lenOf, Builtin.firstCells]
  · simp [Builtin.append_, run_underlying ht, sizeOf, typeInfo, hi, Builtin.lenOf, Builtin.firstCells, hnc, storeCells]

/-- append: what comes of it. -/
theorem append_run {t ty e : TypeId} {i : TypeInfo} {z : Value} (ht : P.underlying t = some (.slice e)) (hi : P.info? e = some i) (hz : i.zero = some z) (hzs : z.cells.size = i.size) (hsz : 0 < i.size)
    {v : Value} {n : Nat} {xs : List Value} (hown : w.ownsRow 0 e i.size v n xs) {ok : Nat → Prop} {ys : List (List FV)} {u : Value} {A : Option Addr} {c : Nat} {vals : List Value} (R : Reads w ok i.size ys u A c vals)
    (hb : (n + ys.length) * i.bytes ≤ 140737488355328) (hl : n + ys.length ≤ 140737488355328) :
    ∃ v' w', (Builtin.append_ #[t, t] ty #[v, u]).run P w = .ok v' w' ∧ w'.ownsRow 0 e i.size v' (n + ys.length) (xs ++ vals) ∧ w.grownBy w' v.ownBlock ∧ (v'.ownBlock = v.ownBlock ∨ v'.ownBlock = some w.heap.size) := by
  rw [R.val]
  cases hA : A with
  | none =>
    have h0 := R.none hA
    subst h0
    have hv : vals = [] := List.eq_nil_of_length_eq_zero (by rw [R.len]; simp)
    subst hv
    exact ⟨v, w, run_append_empty ht hi hown c, by simpa using hown, ⟨rfl, rfl, rfl, Nat.le_refl _, fun _ _ _ => rfl⟩, .inl rfl⟩
  | some ad =>
    obtain ⟨v', w', h1, h2, h3, _, h5⟩ := run_append_own_at (P := P) w 0 t ty e i z i.size i.bytes ht hi hz rfl rfl hzs hsz v n xs hown ad ys.length c vals R.len (R.cells ad hA) R.ones (by simp only [maxLen]; omega) hb (Nat.zero_le _)
    exact ⟨v', w', h1, h2, h3, h5⟩

theorem vals_append {ok : Nat → Prop} {sz : Nat} {els ys : List (List FV)} {vs vals : List Value} (hl : vs.length = els.length * sz) (hels : ∀ (i : Nat) (x : List FV), els[i]? = some x → x.length = sz)
    (hv : ∀ (i j : Nat) (x : List FV) (f : FV), els[i]? = some x → x[j]? = some f → RepF w ok f (vs.getD (i * sz + j) undef)) (hv' : ∀ (i j : Nat) (x : List FV) (f : FV), ys[i]? = some x → x[j]? = some f → RepF w ok f (vals.getD (i * sz + j) undef)) :
    ∀ (i j : Nat) (x : List FV) (f : FV), (els ++ ys)[i]? = some x → x[j]? = some f → RepF w ok f ((vs ++ vals).getD (i * sz + j) undef) := by
  intro i j x f hx hf
  rcases Nat.lt_or_ge i els.length with hi | hi
  · rw [List.getElem?_append_left hi] at hx
    have hj : j < sz := by rw [← hels i x hx]; exact (List.getElem?_eq_some_iff.1 hf).1
    have hlt := idx_lt hi hj
    have := hv i j x f hx hf
    rwa [show (vs ++ vals).getD (i * sz + j) undef = vs.getD (i * sz + j) undef from by
      rw [List.getD_eq_getElem?_getD, List.getD_eq_getElem?_getD, List.getElem?_append_left (by rw [hl]; exact hlt)]]
  · rw [List.getElem?_append_right hi] at hx
    have := hv' (i - els.length) j x f hx hf
    rwa [show (vs ++ vals).getD (i * sz + j) undef = vals.getD ((i - els.length) * sz + j) undef from by
      have e : els.length * sz ≤ i * sz := Nat.mul_le_mul_right _ hi
      rw [List.getD_eq_getElem?_getD, List.getD_eq_getElem?_getD, List.getElem?_append_right (by rw [hl]; omega), hl, Nat.sub_mul]
      congr 2
      omega]

/-- append to an own row. -/
theorem app_ok (h : Rel X μ H w) {b ty t rty : TypeId} {e : TypeId} {i : TypeInfo} {z : Value} {els ys : List (List FV)} (hb : getH H b = some (.row e i.size els)) (ht : P.underlying t = some (.slice e)) (hi : P.info? e = some i) (hz : i.zero = some z) (hzs : z.cells.size = i.size) (hsz : 0 < i.size)
    {u : Value} {A : Option Addr} {c : Nat} {vals : List Value} (R : Reads w (Fz X μ H w) i.size ys u A c vals) (hby : (els.length + ys.length) * i.bytes ≤ 140737488355328) (hl : els.length + ys.length ≤ 140737488355328) :
    ∃ v' w', (Builtin.append_ #[t, t] rty #[μ b, u]).run P w = .ok v' w' ∧
      (Rel X (upd μ b v') (setH (subH b .junk H) b (some (.row e i.size (els ++ ys)))) w' ∧ Keep b μ H w (upd μ b v') (setH (subH b .junk H) b (some (.row e i.size (els ++ ys)))) w') ∧
      (∀ x v, Rep μ H w (Fz X μ H w) x v → Rep (upd μ b v') (setH (subH b .junk H) b (some (.row e i.size (els ++ ys)))) w' (Fz X (upd μ b v') (setH (subH b .junk H) b (some (.row e i.size (els ++ ys)))) w') (subA b .junk x) v) ∧
      Rep (upd μ b v') (setH (subH b .junk H) b (some (.row e i.size (els ++ ys)))) w' (Fz X (upd μ b v') (setH (subH b .junk H) b (some (.row e i.size (els ++ ys)))) w') (.own b) v' := by
  obtain ⟨_, hels, vs, ho, hv⟩ := h.blk b _ hb
  obtain ⟨v', w', hr, hown, hg, hat⟩ := append_run (ty := rty) ht hi hz hzs hsz ho R hby hl
  have hsl := blkOf_own (ownsRow_slice ho)
  have hsl' := blkOf_own (ownsRow_slice hown)
  have hheap : ∀ k, k < w.heap.size → blkOf (μ b) ≠ some k → w'.heap[k]? = w.heap[k]? := fun k hk hne => hg.block k hk (by rw [← hsl]; exact fun e => hne e.symm)
  have hu : ∀ k, blkOf v' = some k → blkOf (μ b) = some k ∨ w.heap.size ≤ k := fun k hk => by
    rw [hsl'] at hk
    rcases hat with hat | hat
    · rw [hat, ← hsl] at hk; exact .inl hk
    · rw [hat] at hk; cases hk; exact .inr (Nat.le_refl _)
  have hmv := app_fz (X := X) (u := v') (els' := els ++ ys) h hb hg.size hheap hu
  have hone : v'.oneCell' = true := by obtain ⟨A, n, c, rfl⟩ := ownsRow_slice hown; rfl
  have hrep := fun (x : AV) (v : Value) (hx : Rep μ H w (Fz X μ H w) x v) => app_rep (els' := els ++ ys) h hb hg.size hheap hu hx
  refine ⟨v', w', hr, h.app hb hg.size hg.os (TapeOK.run hr hg.tape) hg.output hheap hu ⟨hsz, ?_, vs ++ vals, ?_, ?_⟩, hrep, ?_⟩
  · intro k x hx
    rcases Nat.lt_or_ge k els.length with hk | hk
    · rw [List.getElem?_append_left hk] at hx; exact hels k x hx
    · rw [List.getElem?_append_right hk] at hx; exact R.lens _ x hx
  · rw [upd_self, List.length_append]; exact hown
  · exact fun k j x f hx hf => (vals_append ho.1 hels hv R.reps k j x f hx hf).move hmv
  · refine .own (sz := i.size) (ty := e) (els := els ++ ys) ?_ (upd_self _ _ _).symm hone
    exact getH_setH_self (by rw [subH_length]; exact getH_lt hb)

/-- append to nil. -/
theorem app_nil_ok (h : Rel X μ H w) {t rty : TypeId} {e : TypeId} {i : TypeInfo} {z : Value} {ys : List (List FV)} (ht : P.underlying t = some (.slice e)) (hi : P.info? e = some i) (hz : i.zero = some z) (hzs : z.cells.size = i.size) (hsz : 0 < i.size)
    {u : Value} {A : Option Addr} {c : Nat} {vals : List Value} (R : Reads w (Fz X μ H w) i.size ys u A c vals) (hby : ys.length * i.bytes ≤ 140737488355328) (hl : ys.length ≤ 140737488355328) :
    ∃ v' w', (Builtin.append_ #[t, t] rty #[.slice none 0 0, u]).run P w = .ok v' w' ∧ Ext w w' ∧ (∀ k, blkOf v' = some k → w.heap.size ≤ k) ∧ Made μ H w (Fz X μ H w) w' v' (.row e i.size ys) := by
  obtain ⟨v', w', hr, hown, hg, hat⟩ := append_run (w := w) (ty := rty) (n := 0) (xs := []) (v := .slice none 0 0) ht hi hz hzs hsz (World.ownsRow_nil w 0 e i.size) R (by simpa using hby) (by simpa using hl)
  simp only [Nat.zero_add, List.nil_append] at hown
  have hsl' := blkOf_own (ownsRow_slice hown)
  refine ⟨v', w', hr, ⟨hg.size, hg.os, TapeOK.run hr hg.tape, hg.output, fun k hk => hg.block k hk (by simp [Value.ownBlock])⟩, fun k hk => ?_, hsz, R.lens, vals, hown, R.reps⟩
  rw [hsl'] at hk
  rcases hat with hat | hat
  · rw [hat] at hk; simp [Value.ownBlock] at hk
  · rw [hat] at hk; cases hk; exact Nat.le_refl _

/-! ### stores -/
theorem run_storeVar {t : TypeId} {k : Nat} (hk : szOf P t = some k) {g o : Nat} {ty : TypeId} {cur : Array Value} (hg : w.heap[g]? = some (.cells cur ty (0, 0))) {u : Value} (hs : u.cells.size = k) (hf : o + k ≤ cur.size) (h1 : ∀ v ∈ u.cells.toList, v.oneCell' = true) :
    (Instr.storeAt t (.pointer (some ⟨g, o, none⟩)) u).run P w = .ok () (w.setRow g (layAt cur.toList o u.cells.toList).toArray) := by
  have := run_storeCells_at P g o ty u.cells.toList 0 cur w hg (by simp; omega) h1
  simp only [Nat.add_zero] at this
  simp [Instr.storeAt, Instr.sureAddr, storeVar, run_szOf hk, hs, this, layAt]

theorem set_get {α : Type} {l : List α} {i k : Nat} {x y : α} (h : (l.set i x)[k]? = some y) : (k = i ∧ y = x ∧ i < l.length) ∨ (k ≠ i ∧ l[k]? = some y) := by
  rw [List.getElem?_set] at h
  split at h
  · rename_i e
    subst e
    split at h
    · cases h; exact .inl ⟨rfl, rfl, by assumption⟩
    · cases h
  · rename_i e; exact .inr ⟨fun e' => e e'.symm, h⟩

theorem layAt_get {vs us : List Value} {off n : Nat} (hf : off + us.length ≤ vs.length) : (layAt vs off us)[n]? = if off ≤ n ∧ n < off + us.length then us[n - off]? else vs[n]? := by
  unfold layAt
  have e2 : (vs.take off).length = off := by simp; omega
  rw [List.append_assoc]
  rcases Nat.lt_or_ge n off with h | h
  · rw [List.getElem?_append_left (by omega), List.getElem?_take, if_pos h, if_neg (by omega)]
  · rw [List.getElem?_append_right (by omega), e2]
    rcases Nat.lt_or_ge (n - off) us.length with h' | h'
    · rw [List.getElem?_append_left h', if_pos (by omega)]
    · rw [List.getElem?_append_right h', List.getElem?_drop, if_neg (by omega)]
      congr 1
      omega

theorem frozen_nil : ∀ {cs : List AV} {fs : List FV} {ks : List Nat}, frozenCells [] cs = some (fs, ks) → ∀ {ok : Nat → Prop} {vs : List Value}, RepL μ H w ok cs vs → fs.length = cs.length ∧ ∀ (j : Nat) (f : FV), fs[j]? = some f → RepF w ok f (vs.getD j undef)
  | [], fs, ks, h, ok, vs, _ => by simp [frozenCells] at h; obtain ⟨rfl, rfl⟩ := h; simp
  | x :: r, fs, ks, h, ok, vs, hv => by
    unfold frozenCells at h
    split at h
    · rename_i heq; cases heq
    · rename_i f r' heq
      simp only [List.cons.injEq] at heq
      obtain ⟨rfl, rfl⟩ := heq
      split at h
      · rename_i fs' ks' hf
        cases h
        cases vs with
        | nil => have := hv.1; simp at this
        | cons u vs =>
          have := frozen_nil hf (vs := vs) ⟨by have := hv.1; simpa using this, fun i x hx => by have := hv.2.1 (i + 1) x (by simpa using hx); simpa using this, fun v hm => hv.2.2 v (List.mem_cons_of_mem _ hm)⟩
          refine ⟨by simp [this.1], fun j f' hj => ?_⟩
          cases j with
          | zero =>
            simp at hj
            subst hj
            have := hv.2.1 0 _ rfl
            simp only [List.getD_cons_zero] at this ⊢
            cases this with
            | fz hF => exact hF
            | dead hx => simp [refOf] at hx
          | succ j => simpa using this.2 j f' (by simpa using hj)
      · cases h
    · rename_i b r' heq
      simp [getH] at h
    · cases h

theorem store_ok (h : Rel X μ H w) {t : TypeId} {cs : List AV} (hk : szOf P t = some cs.length) {hs hs' : List Hint} {x v : AV} {H' : AHeap} {c : List Prop} {p u : Value} (hx : Rep μ H w (Fz X μ H w) x p) (hu : RepL μ H w (Fz X μ H w) cs u.cells.toList)
    (hl : storeA H cs hs x = .put v H' hs' c) (hAll : All c) : v = .junk ∧ ∃ w', (Instr.storeAt t p u).run P w = .ok () w' ∧ Rel X μ H' w' ∧ Keep H.length μ H w μ H' w' ∧ ∀ x v, Rep μ H w (Fz X μ H w) x v → Rep μ H' w' (Fz X μ H' w') x v := by
  have hus : u.cells.size = cs.length := by have := hu.1; simpa using this
  have hone := hu.2.2
  cases hx with
  | ptr hb hg =>
    rename_i b o ty cells g
    simp only [storeA, hb] at hl
    split at hl
    · rename_i hc
      simp only [AR.put.injEq] at hl
      obtain ⟨rfl, rfl, rfl, rfl⟩ := hl
      obtain ⟨g', cur, e, hh, hcs, hcell⟩ := h.blk b _ hb
      have hgg : g' = g := by rw [e] at hg; simpa [blkOf] using hg
      subst hgg
      have hrun := run_storeVar hk hh (u := u) (o := o) hus (by omega) hone
      have hL : RepL μ H w (Fz X μ H w) cells cur.toList := .mk (by simpa using hcs) (fun i y z hy hz => by
        have hz' : cur.getD i undef = z := by
          rw [← toList_getD, List.getD_eq_getElem?_getD, hz]; rfl
        rw [← hz']
        exact hcell i y hy)
      have hlay := hL.lay hu (off := o) hc.1
      have hsame : sameKind (.var ty cells) (.var ty (putAt cells o cs)) := ⟨rfl, by rw [putAt_eq _ _ _ (by omega)]; simp; omega⟩
      have hheap : ∀ k, blkOf (μ b) ≠ some k → (w.setRow g' (layAt cur.toList o u.cells.toList).toArray).heap[k]? = w.heap[k]? := fun k hk' => setRow_other w g' k _ (fun e' => hk' (by rw [hg, e']))
      have hsize : (w.setRow g' (layAt cur.toList o u.cells.toList).toArray).heap.size = w.heap.size := by simp [World.setRow]
      refine ⟨rfl, _, hrun, ?_⟩
      have hset := h.setb (w' := w.setRow g' (layAt cur.toList o u.cells.toList).toArray) hb hsame hsize rfl ⟨rfl, Nat.le_refl _⟩ rfl hheap ?_
      · exact ⟨hset.1, hset.2, fun x v hx => setb_rep hb hsame hsize hheap hx⟩
      · refine ⟨g', _, e, setRow_heap w g' cur _ ty (0, 0) hh, by rw [List.size_toArray, hlay.1], fun i y hy => ?_⟩
        obtain ⟨z, hz, hr, h1⟩ := hlay.get hy
        have : ((layAt cur.toList o u.cells.toList).toArray).getD i undef = z := by simp [Array.getD_eq_getD_getElem?, hz]
        rw [this]
        exact ⟨setb_rep hb hsame hsize hheap hr, h1⟩
    · cases hl
  | ep hb hi hg =>
    rename_i b i j ty sz els g
    simp only [storeA, hb] at hl
    split at hl
    · rename_i ty1 sz1 els1 fs ks hrow hfz
      cases hrow
      have key : ∀ x0, els[i]? = some x0 → j + fs.length ≤ x0.length ∧ ones cs = true → v = .junk → H' = setH H b (some (.row ty sz (els.set i (putAt x0 j fs)))) →
          v = .junk ∧ ∃ w', (Instr.storeAt t (.pointer (some ⟨g, i * sz + j, none⟩)) u).run P w = .ok () w' ∧ Rel X μ H' w' ∧ Keep H.length μ H w μ H' w' ∧ ∀ x v, Rep μ H w (Fz X μ H w) x v → Rep μ H' w' (Fz X μ H' w') x v := by
        intro x0 hx0 hc hvj hHj
        subst hvj
        subst hHj
        obtain ⟨hfl, hF⟩ := frozen_nil hfz hu
        obtain ⟨hsz, hels, vs, ho, hv⟩ := h.blk b _ hb
        rcases ho.2 with ⟨e, _⟩ | ⟨g', cap, cur, e, _, hh, hnc, hcm, hcs, htk⟩
        · rw [e] at hg; simp [blkOf] at hg
        · have hgg : g' = g := by rw [e] at hg; simpa [blkOf] using hg
          subst hgg
          have hxl := hels i x0 hx0
          have hfit : i * sz + (j + cs.length) ≤ els.length * sz := by
            have : (i + 1) * sz ≤ els.length * sz := Nat.mul_le_mul_right _ hi
            rw [Nat.add_mul] at this
            omega
          have hcap : els.length * sz ≤ cap * sz := Nat.mul_le_mul_right _ hnc
          have hrun := run_storeVar hk hh (u := u) (o := i * sz + j) hus (by omega) hone
          have hvl := ho.1
          have hul : u.cells.toList.length = cs.length := by simpa using hus
          have hsame : sameKind (.row ty sz els) (.row ty sz (els.set i (putAt x0 j fs))) := ⟨rfl, rfl, by simp⟩
          have hheap : ∀ k, blkOf (μ b) ≠ some k → (w.setRow g' (layAt cur.toList (i * sz + j) u.cells.toList).toArray).heap[k]? = w.heap[k]? := fun k hk' => setRow_other w g' k _ (fun e' => hk' (by rw [hg, e']))
          have hsize : (w.setRow g' (layAt cur.toList (i * sz + j) u.cells.toList).toArray).heap.size = w.heap.size := by simp [World.setRow]
          have hmv := setb_fz (X := X) hb hsame hsize hheap
          have hxlen : ∀ (k : Nat) (x : List FV), (els.set i (putAt x0 j fs))[k]? = some x → x.length = sz := fun k x hx => by
            rcases set_get hx with ⟨rfl, rfl, _⟩ | ⟨_, hx'⟩
            · rw [putAt_eq _ _ _ (by omega)]; simp; omega
            · exact hels k x hx'
          refine ⟨rfl, _, hrun, ?_⟩
          have hset := h.setb (w' := w.setRow g' (layAt cur.toList (i * sz + j) u.cells.toList).toArray) hb hsame hsize rfl ⟨rfl, Nat.le_refl _⟩ rfl hheap ?_
          · exact ⟨hset.1, hset.2, fun x v hx => setb_rep hb hsame hsize hheap hx⟩
          · refine ⟨hsz, hxlen, layAt vs (i * sz + j) u.cells.toList, ⟨?_, .inr ⟨g', cap, _, by rw [e]; simp, Nat.zero_le _, setRow_heap w g' cur _ ty (0, 0) hh, by simpa using hnc, hcm, ?_, ?_⟩⟩, fun k l x f hx hf => ?_⟩
            · rw [layAt_length (by rw [hul]; omega), hvl]; simp
            · rw [List.size_toArray, layAt_length (by rw [hul]; simp; omega)]; simpa using hcs
            · apply List.ext_getElem?
              intro n
              rw [layAt_get (by rw [hul]; omega), List.getElem?_take]
              simp only [List.length_set]
              by_cases hn : n < els.length * sz
              · rw [if_pos hn, layAt_get (by rw [hul]; simp; omega)]
                split
                · rfl
                · rw [← htk, List.getElem?_take, if_pos hn]
              · rw [if_neg hn, if_neg (by rw [hul]; omega), List.getElem?_eq_none (by omega)]
            · have hkl : k < els.length := by
                have := (List.getElem?_eq_some_iff.1 hx).1; simpa using this
              have hll : l < sz := by rw [← hxlen k x hx]; exact (List.getElem?_eq_some_iff.1 hf).1
              refine RepF.move hmv ?_
              rw [List.getD_eq_getElem?_getD, layAt_get (by rw [hul]; omega), hul]
              rcases set_get hx with ⟨rfl, rfl, _⟩ | ⟨hki, hx'⟩
              · rw [putAt_eq _ _ _ (by omega), List.append_assoc] at hf
                have e1 : (x0.take j).length = j := by simp; omega
                by_cases hin : j ≤ l ∧ l < j + cs.length
                · rw [if_pos (by omega), show k * sz + l - (k * sz + j) = l - j from by omega]
                  rw [List.getElem?_append_right (by omega), e1, List.getElem?_append_left (by omega)] at hf
                  have := hF _ f hf
                  rwa [List.getD_eq_getElem?_getD] at this
                · rw [if_neg (by omega)]
                  have hf' : x0[l]? = some f := by
                    rcases Nat.lt_or_ge l j with hlj | hlj
                    · rw [List.getElem?_append_left (by omega), List.getElem?_take, if_pos hlj] at hf; exact hf
                    · rw [List.getElem?_append_right (by omega), e1, List.getElem?_append_right (by omega), List.getElem?_drop] at hf
                      rw [← hf]; congr 1; omega
                  have := hv k l x0 f hx0 hf'
                  rwa [List.getD_eq_getElem?_getD] at this
              · rw [if_neg ?_]
                · have := hv k l x f hx' hf
                  rwa [List.getD_eq_getElem?_getD] at this
                · rintro ⟨h1, h2⟩
                  rcases Nat.lt_or_gt_of_ne hki with hlt | hgt
                  · have : (k + 1) * sz ≤ i * sz := Nat.mul_le_mul_right _ hlt
                    rw [Nat.add_mul] at this
                    omega
                  · have : (i + 1) * sz ≤ k * sz := Nat.mul_le_mul_right _ hgt
                    rw [Nat.add_mul] at this
                    omega
      split at hl
      · rename_i x0 r
        split at hl
        · rename_i hc
          simp only [AR.put.injEq] at hl
          obtain ⟨h1, h2, h3, h4⟩ := hl
          subst h4
          exact key x0 hAll.1 hc h1.symm h2.symm
        · cases hl
      · split at hl
        · rename_i x0 hx0
          split at hl
          · rename_i hc
            simp only [AR.put.injEq] at hl
            obtain ⟨h1, h2, h3, h4⟩ := hl
            exact key x0 hx0 hc h1.symm h2.symm
          · cases hl
        · cases hl
    · cases hl
  | dead hx' hb hd h1 =>
    rename_i b
    cases x <;> simp [refOf] at hx' <;> subst hx' <;> simp [storeA, hd] at hl
  | _ => simp [storeA] at hl
end
end Go.Proofs.Ai
