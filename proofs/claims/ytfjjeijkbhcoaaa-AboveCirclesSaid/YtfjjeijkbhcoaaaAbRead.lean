/- Rows that are given from outside: what they are as frozen rows. -/
import Derived.Test.YtfjjeijkbhcoaaaAbEntity
import Derived.ChangeSame
set_option linter.unusedVariables false
set_option linter.unusedSimpArgs false
namespace Go.Proofs.Ai
open Go Go.ChangeShapes Go.WideShapes

def inW (w : World) : Nat → Prop := fun k => k < w.heap.size
/-- Cells are those of a row. -/
def CellsAs (w : World) (row : List FV) (cs : List Value) : Prop := row.length = cs.length ∧ ∀ (j : Nat) f, row[j]? = some f → ∃ v, cs[j]? = some v ∧ RepF w (inW w) f v

theorem cell_lt {w : World} {a : Addr} {v : Value} (h : w.cell? a = some v) : a.block < w.heap.size := by
  unfold World.cell? at h
  split at h
  · rename_i heq
    exact (Array.getElem?_eq_some_iff.1 heq).1
  · cases h

theorem choose_rows {Q : Nat → List FV → Prop} : ∀ len, (∀ i, i < len → ∃ r, Q i r) → ∃ rows : List (List FV), rows.length = len ∧ ∀ (i : Nat) r, rows[i]? = some r → Q i r
  | 0, _ => ⟨[], rfl, fun i r h => by simp at h⟩
  | n + 1, h => by
    obtain ⟨rows, h1, h2⟩ := choose_rows n (fun i hi => h i (by omega))
    obtain ⟨r, hr⟩ := h n (by omega)
    refine ⟨rows ++ [r], by simp [h1], fun i q hq => ?_⟩
    by_cases hi : i < rows.length
    · rw [List.getElem?_append_left hi] at hq
      exact h2 i q hq
    · rw [List.getElem?_append_right (by omega)] at hq
      have : i - rows.length = 0 := by
        have := (List.getElem?_eq_some_iff.1 hq).1
        simp at this
        omega
      rw [this] at hq
      simp at hq
      subst hq
      have : i = n := by omega
      rw [this]
      exact hr

section
variable {H : Type} {enc : TypeId × Value → H} {w : World} {base : Nat} {spare : Nat → Bool} {held : Bool}

theorem rep_slice_of {P : Program} {t e : TypeId} {Pr : List FV → Prop} {sz fuel : Nat} {cs : List Value} {x : DataW H × List MemPlace} (ht : P.underlying t = some (.slice e)) (hsz : P.cellsOf e = sz) (hpos : 0 < sz)
    (hel : ∀ m cs' y, m < fuel → DataW.trod enc P w base spare held m e cs' = some y → ∃ row, Pr row ∧ CellsAs w row cs') (h : DataW.trod enc P w base spare held fuel t cs = some x) :
    ∃ rows : List (List FV), (∀ r ∈ rows, Pr r) ∧ ∃ v, cs = [v] ∧ RepF w (inW w) (.sl sz rows) v := by
  rcases DataW.trod_slice ht h with ⟨rfl, _⟩ | ⟨a, len, cap, elems, rest, n, rfl, rfl, _, _, hlc, _, hlen, hcells, _, _⟩
  · exact ⟨[], (fun r hr => absurd hr (List.not_mem_nil)), _, rfl, .nil⟩
  · have each : ∀ i, i < len → ∃ row cs', Pr row ∧ CellsAs w row cs' ∧ cs'.length = sz ∧ ∀ j, j < sz → w.cell? ((a.add (i * sz)).add j) = cs'[j]? := by
      intro i hi
      have := hcells i hi
      rw [List.getElem?_eq_getElem (by omega), Option.bind_eq_some_iff] at this
      obtain ⟨cs', h1, h2⟩ := this
      obtain ⟨row, h3, h4⟩ := hel n cs' _ (by omega) h2
      obtain ⟨_, h5, h6⟩ := World.cells?_some h1
      rw [hsz] at h5 h6
      exact ⟨row, cs', h3, h4, h5, h6⟩
    rcases Nat.eq_zero_or_pos len with h0 | h0
    · subst h0
      exact ⟨[], (fun r hr => absurd hr (List.not_mem_nil)), _, rfl, .nil⟩
    · obtain ⟨rows, hrl, hrow⟩ := choose_rows len each
      obtain ⟨b, off, spot⟩ := a
      have hspot : spot = none := by
        obtain ⟨row, cs', _, _, hl, hc⟩ := each 0 h0
        have h1 := hc 0 hpos
        rw [List.getElem?_eq_getElem (by omega)] at h1
        have := World.cell?_spot h1
        simp only [Nat.zero_mul] at this
        rw [add_zero, add_zero] at this
        exact this
      subst hspot
      have hadd : ∀ i j, ((⟨b, off, none⟩ : Addr).add (i * sz)).add j = (⟨b, off, none⟩ : Addr).add (i * sz + j) := fun i j => by rw [add_none, add_none, add_none, Nat.add_assoc]
      refine ⟨rows, fun r hr => ?_, _, rfl, ?_⟩
      · obtain ⟨i, hi⟩ := List.getElem?_of_mem hr
        obtain ⟨_, h1, _⟩ := hrow i r hi
        exact h1
      · rw [← hrl]
        refine .sl (fun i j => (w.cell? ((⟨b, off, none⟩ : Addr).add (i * sz + j))).getD undef) (by omega) ?_ (fun i r hr => ?_) (fun i j r f hr hf => ?_) (fun i j r f hr hf => ?_)
        · obtain ⟨row, cs', _, _, hl, hc⟩ := each 0 h0
          have h1 := hc 0 hpos
          rw [List.getElem?_eq_getElem (by omega)] at h1
          have := cell_lt h1
          have h2 : b < w.heap.size := by simpa [add_none] using this
          exact h2
        · obtain ⟨cs', _, h2, h3, _⟩ := hrow i r hr
          rw [h2.1, h3]
        · obtain ⟨cs', _, h2, h3, h4⟩ := hrow i r hr
          obtain ⟨v, hv, _⟩ := h2.2 j f hf
          have hj : j < sz := by rw [← h3]; exact (List.getElem?_eq_some_iff.1 hv).1
          have := h4 j hj
          rw [hadd, hv] at this
          rw [this]
          rfl
        · obtain ⟨cs', _, h2, h3, h4⟩ := hrow i r hr
          obtain ⟨v, hv, hrep⟩ := h2.2 j f hf
          have hj : j < sz := by rw [← h3]; exact (List.getElem?_eq_some_iff.1 hv).1
          have := h4 j hj
          rw [hadd, hv] at this
          simp only [this, Option.getD_some]
          exact hrep

theorem rows_map {α : Type} {g : α → List FV} : ∀ {rows : List (List FV)}, (∀ r ∈ rows, ∃ x, r = g x) → ∃ xs : List α, rows = xs.map g
  | [], _ => ⟨[], rfl⟩
  | r :: rows, h => by
    obtain ⟨x, rfl⟩ := h r List.mem_cons_self
    obtain ⟨xs, rfl⟩ := rows_map (fun r hr => h r (List.mem_cons_of_mem _ hr))
    exact ⟨x :: xs, rfl⟩

theorem read_ints {fuel : Nat} {cs : List Value} {x : DataW H × List MemPlace} (h : DataW.trod enc Try.prog w base spare held fuel 47 cs = some x) : ∃ zs : List Int, ∃ v, cs = [v] ∧ RepF w (inW w) (.sl 1 (zs.map intF)) v := by
  obtain ⟨rows, h1, v, h2, h3⟩ := rep_slice_of (P := Try.prog) (t := 47) (e := 3) (Pr := fun r => ∃ n, r = intF n) (sz := 1) (by kernel_rfl) (by kernel_rfl) (by omega) (fun m cs' y _ hy => by
    obtain ⟨n, rfl, _, _⟩ := DataW.trod_int (k := .i64) (by kernel_rfl) hy
    exact ⟨intF n, ⟨n, rfl⟩, rfl, fun j f hf => by
      cases j with
      | zero => simp at hf; subst hf; exact ⟨_, rfl, .sc rfl⟩
      | succ j => simp at hf⟩) h
  obtain ⟨zs, rfl⟩ := rows_map h1
  exact ⟨zs, v, h2, h3⟩
theorem read_int {t : TypeId} {fuel : Nat} {cs : List Value} {x : DataW H × List MemPlace} (ht : Try.prog.underlying t = some (.int .i64)) (h : DataW.trod enc Try.prog w base spare held fuel t cs = some x) : ∃ n, cs = [.int .i64 n] := by
  obtain ⟨n, rfl, _, _⟩ := DataW.trod_int ht h
  exact ⟨n, rfl⟩

theorem fields_of {t : TypeId} {fuel : Nat} {cs : List Value} {x : DataW H × List MemPlace} {fs : Array Field} (ht : Try.prog.underlying t = some (.struct fs)) (h : DataW.trod enc Try.prog w base spare held fuel t cs = some x) :
    ∃ n, n < fuel ∧ cs.length = Try.prog.cellsOf t ∧ ∀ (i : Nat) (tt off : Nat), (fs.toList.map fun f => (f.type, f.offset))[i]? = some (tt, off) → ∃ y, DataW.trod enc Try.prog w base spare held n tt ((cs.drop off).take (Try.prog.cellsOf tt)) = some y := by
  obtain ⟨xs, n, rfl, _, hl, hxl, hf⟩ := DataW.trod_struct ht h
  refine ⟨n, by omega, hl, fun i tt off hi => ?_⟩
  rw [List.getElem?_map] at hi
  obtain ⟨f, hfi, e⟩ := Option.map_eq_some_iff.1 hi
  simp only [Prod.mk.injEq] at e
  obtain ⟨rfl, rfl⟩ := e
  have hfa : fs[i]? = some f := by rw [← Array.getElem?_toList]; exact hfi
  have := hf i f hfa
  have hlt : i < xs.length := by rw [hxl]; exact (Array.getElem?_eq_some_iff.1 hfa).1
  rw [List.getElem?_eq_getElem hlt] at this
  exact ⟨_, this⟩

theorem five {α : Type} {l : List α} {n : Nat} (h : l.length = n) (hn : n = 5) : ∃ a b c d e, l = [a, b, c, d, e] := by
  subst hn
  match l, h with
  | [a, b, c, d, e], _ => exact ⟨a, b, c, d, e, rfl⟩
theorem four {α : Type} {l : List α} {n : Nat} (h : l.length = n) (hn : n = 4) : ∃ a b c d, l = [a, b, c, d] := by
  subst hn
  match l, h with
  | [a, b, c, d], _ => exact ⟨a, b, c, d, rfl⟩

theorem read_raw : ∀ (fuel : Nat) (cs : List Value) (x : DataW H × List MemPlace), DataW.trod enc Try.prog w base spare held fuel 60 cs = some x → ∃ r : RawD, CellsAs w (rawF r) cs := by
  intro fuel
  induction fuel using Nat.strongRecOn with
  | ind fuel ih =>
    intro cs x h
    have hfs : (Try.prog.fieldsOf 60).toList.map (fun f => (f.type, f.offset)) = [(3, 0), (2, 1), (47, 2), (48, 3)] := by kernel_rfl
    obtain ⟨n, hn, hl, hf⟩ := fields_of (t := 60) (fs := Try.prog.fieldsOf 60) (by kernel_rfl) h
    rw [hfs] at hf
    obtain ⟨a, b, c, d, rfl⟩ := four hl (by kernel_rfl)
    obtain ⟨y0, h0⟩ := hf 0 3 0 rfl
    obtain ⟨y1, h1⟩ := hf 1 2 1 rfl
    obtain ⟨y2, h2⟩ := hf 2 47 2 rfl
    obtain ⟨y3, h3⟩ := hf 3 48 3 rfl
    have e3 : Try.prog.cellsOf 3 = 1 := by kernel_rfl
    have e2 : Try.prog.cellsOf 2 = 1 := by kernel_rfl
    have e47 : Try.prog.cellsOf 47 = 1 := by kernel_rfl
    have e48 : Try.prog.cellsOf 48 = 1 := by kernel_rfl
    rw [e3] at h0
    rw [e2] at h1
    rw [e47] at h2
    rw [e48] at h3
    obtain ⟨k, hk⟩ := read_int (by kernel_rfl) h0
    obtain ⟨m, hm⟩ := read_int (by kernel_rfl) h1
    obtain ⟨zs, v, hv, hz⟩ := read_ints h2
    obtain ⟨rows, hr, u, hu, hrep⟩ := rep_slice_of (P := Try.prog) (t := 48) (e := 60) (Pr := fun r => ∃ x, r = rawF x) (sz := 4) (by kernel_rfl) (by kernel_rfl) (by omega) (fun m cs' y hm hy => by
      obtain ⟨r, hr⟩ := ih m (by omega) cs' y hy
      exact ⟨rawF r, ⟨r, rfl⟩, hr⟩) h3
    obtain ⟨rs, rfl⟩ := rows_map hr
    simp at hk hm hv hu
    subst hk
    subst hm
    subst hv
    subst hu
    refine ⟨.mk k m zs rs, by simp [rawF], fun j f hf => ?_⟩
    have hrf : rawF (.mk k m zs rs) = [.int k, .int m, .sl 1 (zs.map intF), .sl 4 (rs.map rawF)] := by simp [rawF, rawsF_map]
    rw [hrf] at hf
    match j with
    | 0 => simp at hf; subst hf; exact ⟨_, rfl, .sc rfl⟩
    | 1 => simp at hf; subst hf; exact ⟨_, rfl, .sc rfl⟩
    | 2 => simp at hf; subst hf; exact ⟨_, rfl, hz⟩
    | 3 => simp at hf; subst hf; exact ⟨_, rfl, hrep⟩
    | j + 4 => simp at hf

theorem read_ent {fuel : Nat} {cs : List Value} {x : DataW H × List MemPlace} (h : DataW.trod enc Try.prog w base spare held fuel 50 cs = some x) : ∃ e : EntR, CellsAs w (entRF e) cs := by
  have hfs : (Try.prog.fieldsOf 50).toList.map (fun f => (f.type, f.offset)) = [(3, 0), (3, 1), (47, 2), (47, 3), (48, 4)] := by kernel_rfl
  obtain ⟨n, hn, hl, hf⟩ := fields_of (t := 50) (fs := Try.prog.fieldsOf 50) (by kernel_rfl) h
  rw [hfs] at hf
  obtain ⟨a, b, c, d, g, rfl⟩ := five hl (by kernel_rfl)
  obtain ⟨y0, h0⟩ := hf 0 3 0 rfl
  obtain ⟨y1, h1⟩ := hf 1 3 1 rfl
  obtain ⟨y2, h2⟩ := hf 2 47 2 rfl
  obtain ⟨y3, h3⟩ := hf 3 47 3 rfl
  obtain ⟨y4, h4⟩ := hf 4 48 4 rfl
  have e3 : Try.prog.cellsOf 3 = 1 := by kernel_rfl
  have e47 : Try.prog.cellsOf 47 = 1 := by kernel_rfl
  have e48 : Try.prog.cellsOf 48 = 1 := by kernel_rfl
  rw [e3] at h0 h1
  rw [e47] at h2 h3
  rw [e48] at h4
  obtain ⟨k, hk⟩ := read_int (by kernel_rfl) h0
  obtain ⟨m, hm⟩ := read_int (by kernel_rfl) h1
  obtain ⟨ps, v, hv, hz⟩ := read_ints h2
  obtain ⟨ns, v', hv', hz'⟩ := read_ints h3
  obtain ⟨rows, hr, u, hu, hrep⟩ := rep_slice_of (P := Try.prog) (t := 48) (e := 60) (Pr := fun r => ∃ x, r = rawF x) (sz := 4) (by kernel_rfl) (by kernel_rfl) (by omega) (fun m cs' y hm hy => by
    obtain ⟨r, hr⟩ := read_raw m cs' y hy
    exact ⟨rawF r, ⟨r, rfl⟩, hr⟩) h4
  obtain ⟨rs, rfl⟩ := rows_map hr
  simp at hk hm hv hv' hu
  subst hk
  subst hm
  subst hv
  subst hv'
  subst hu
  refine ⟨⟨k, m, ps, ns, rs⟩, rfl, fun j f hf => ?_⟩
  match j with
  | 0 => simp at hf; subst hf; exact ⟨_, rfl, .sc rfl⟩
  | 1 => simp at hf; subst hf; exact ⟨_, rfl, .sc rfl⟩
  | 2 => simp at hf; subst hf; exact ⟨_, rfl, hz⟩
  | 3 => simp at hf; subst hf; exact ⟨_, rfl, hz'⟩
  | 4 => simp at hf; subst hf; exact ⟨_, rfl, hrep⟩
  | j + 5 => simp at hf
/-- Entities as they are given. -/
theorem read_ents {v : Value} {d : DataW H} {ps : List MemPlace} (h : DataW.Trod enc Try.prog w base spare held 39 v d ps) (h1 : v.oneCell' = true) : ∃ es : List EntR, RepF w (inW w) (.sl 5 (es.map entRF)) v := by
  obtain ⟨fuel, h⟩ := h
  obtain ⟨rows, hr, u, hu, hrep⟩ := rep_slice_of (P := Try.prog) (t := 39) (e := 50) (Pr := fun r => ∃ x, r = entRF x) (sz := 5) (by kernel_rfl) (by kernel_rfl) (by omega) (fun m cs' y _ hy => by
    obtain ⟨e, he⟩ := read_ent hy
    exact ⟨entRF e, ⟨e, rfl⟩, he⟩) h
  obtain ⟨es, rfl⟩ := rows_map hr
  refine ⟨es, ?_⟩
  have : v = u := by
    cases v <;> simp [Value.cells, Value.oneCell'] at hu h1 <;> exact hu
  rw [this]
  exact hrep
end
end Go.Proofs.Ai
