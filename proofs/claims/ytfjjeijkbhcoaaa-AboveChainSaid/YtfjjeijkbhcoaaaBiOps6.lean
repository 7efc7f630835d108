/- The abstract machine, 12: operations that make a block, grow a row, store. -/
import Derived.Test.YtfjjeijkbhcoaaaBiOps5
set_option linter.unusedVariables false
set_option linter.unusedSimpArgs false
namespace Go.Proofs.Ai
open Go

theorem flatten_get {α : Type} {sz : Nat} : ∀ (L : List (List α)), (∀ (i : Nat) (x : List α), L[i]? = some x → x.length = sz) → ∀ (i j : Nat) (x : List α) (y : α), L[i]? = some x → x[j]? = some y → L.flatten[i * sz + j]? = some y
  | [], _, i, j, x, y, h, _ => by simp at h
  | z :: r, hl, i, j, x, y, h, hy => by
    have hz : z.length = sz := hl 0 z rfl
    cases i with
    | zero =>
      simp at h
      subst h
      have hj : j < z.length := (List.getElem?_eq_some_iff.1 hy).1
      simp only [List.flatten_cons, Nat.zero_mul, Nat.zero_add]
      rw [List.getElem?_append_left hj]
      exact hy
    | succ i =>
      have ih := flatten_get r (fun i x hx => hl (i + 1) x (by simpa using hx)) i j x y (by simpa using h) hy
      simp only [List.flatten_cons]
      rw [List.getElem?_append_right (by rw [hz, Nat.add_mul]; omega), hz]
      rw [show (i + 1) * sz + j - sz = i * sz + j from by rw [Nat.add_mul]; omega]
      exact ih
theorem flatten_length {α : Type} {sz : Nat} : ∀ (L : List (List α)), (∀ (i : Nat) (x : List α), L[i]? = some x → x.length = sz) → L.flatten.length = L.length * sz
  | [], _ => by simp
  | z :: r, hl => by
    have ih := flatten_length r (fun i x hx => hl (i + 1) x (by simpa using hx))
    simp only [List.flatten_cons, List.length_append, List.length_cons, ih, hl 0 z rfl, Nat.add_mul]
    omega

theorem fill_seq {sz : Nat} : ∀ (vs : List Value) (i0 : Nat) (done rest : List Value), done.length = i0 * sz → rest.length = vs.length * sz → (∀ v ∈ vs, v.cells.size = sz) →
    Instr.fill (fun i => some (i * sz, sz)) (done ++ rest).toArray ((vs.zipIdx i0).map fun p => (p.2, p.1)) = some (done ++ (vs.map (·.cells.toList)).flatten).toArray
  | [], i0, done, rest, hd, hr, _ => by
    have : rest = [] := List.eq_nil_of_length_eq_zero (by simpa using hr)
    subst this
    simp [Instr.fill]
  | v :: vs, i0, done, rest, hd, hr, hv => by
    have hvs := hv v List.mem_cons_self
    have hr' : rest.length = (vs.length + 1) * sz := by simpa using hr
    rw [Nat.add_mul, Nat.one_mul] at hr'
    simp only [List.zipIdx_cons, List.map_cons]
    rw [fill_step (off := i0 * sz) (size := sz) _ _ _ _ _ rfl hvs (by simp; omega)]
    have e : layAt (done ++ rest).toArray.toList (i0 * sz) v.cells.toList = (done ++ v.cells.toList) ++ rest.drop sz := by
      simp only [layAt]
      have h1 : (done ++ rest).take (i0 * sz) = done := by rw [← hd, List.take_left]
      have h2 : (done ++ rest).drop (i0 * sz + v.cells.toList.length) = rest.drop sz := by
        rw [List.drop_append, ← hd, List.drop_eq_nil_of_le (by omega)]
        simp [hvs]
      rw [h1, h2]
    rw [e, fill_seq vs (i0 + 1) (done ++ v.cells.toList) (rest.drop sz) (by simp [hd, hvs, Nat.add_mul]) (by simp; omega) (fun u hu => hv u (List.mem_cons_of_mem _ hu))]
    simp

theorem parts_zip {α : Type} : ∀ (l : List (Nat × α)) (k : Nat), l.map (·.1) = (List.range l.length).map (k + ·) → l = ((l.map (·.2)).zipIdx k).map fun p => (p.2, p.1)
  | [], _, _ => rfl
  | (i, x) :: r, k, h => by
    rw [List.length_cons, List.range_succ_eq_map] at h
    simp only [List.map_cons, List.map_map, List.cons.injEq, Nat.add_zero] at h
    obtain ⟨rfl, h⟩ := h
    have ih := parts_zip r (i + 1) (by rw [h]; apply List.map_congr_left; intro a _; simp; omega)
    simp only [List.map_cons, List.zipIdx_cons]
    rw [← ih]

section
variable {X : Nat → Prop} {μ : Nat → Value} {H : AHeap} {w : World} {P : Program}

theorem frozenCells_ones {H : AHeap} : ∀ {cs : List AV} {x : List FV × List Nat}, frozenCells H cs = some x → ones cs = true
  | [], _, _ => rfl
  | y :: r, x, h => by
    unfold frozenCells at h
    split at h
    · rename_i heq; cases heq
    · rename_i f r' heq
      simp only [List.cons.injEq] at heq
      obtain ⟨rfl, rfl⟩ := heq
      split at h
      · rename_i fs ks hf
        have := frozenCells_ones hf
        simpa [ones, Ai.one] using this
      · cases h
    · rename_i b r' heq
      simp only [List.cons.injEq] at heq
      obtain ⟨rfl, rfl⟩ := heq
      split at h
      · rename_i ty sz els fs ks hb hf
        have := frozenCells_ones hf
        simpa [ones, Ai.one] using this
      · cases h
    · cases h

theorem frozenCells_rows {H : AHeap} : ∀ {cs : List AV} {fs : List FV} {ks : List Nat}, frozenCells H cs = some (fs, ks) → ∀ b ∈ ks, ∃ ty sz els, getH H b = some (.row ty sz els)
  | [], fs, ks, h, b, hb => by simp [frozenCells] at h; rw [h.2] at hb; cases hb
  | y :: r, fs, ks, h, b, hb => by
    unfold frozenCells at h
    split at h
    · rename_i heq; cases heq
    · rename_i f r' heq
      simp only [List.cons.injEq] at heq
      obtain ⟨rfl, rfl⟩ := heq
      split at h
      · rename_i fs' ks' hf
        cases h
        exact frozenCells_rows hf b hb
      · cases h
    · rename_i c r' heq
      simp only [List.cons.injEq] at heq
      obtain ⟨rfl, rfl⟩ := heq
      split at h
      · rename_i ty sz els fs' ks' hc hf
        cases h
        rcases List.mem_cons.1 hb with rfl | hb'
        · exact ⟨_, _, _, hc⟩
        · exact frozenCells_rows hf b hb'
      · cases h
    · cases h

theorem elsOf_spec {H : AHeap} : ∀ {l : List (List AV)} {els : List (List FV)} {ks : List Nat}, elsOf H l = some (els, ks) → els.length = l.length ∧ (∀ (i : Nat) (cs : List AV), l[i]? = some cs → ∃ fs ks', els[i]? = some fs ∧ frozenCells H cs = some (fs, ks') ∧ ∀ b ∈ ks', b ∈ ks) ∧ ∀ b ∈ ks, ∃ ty sz e, getH H b = some (.row ty sz e)
  | [], els, ks, h => by simp [elsOf] at h; obtain ⟨rfl, rfl⟩ := h; simp
  | x :: r, els, ks, h => by
    unfold elsOf at h
    split at h
    · rename_i fs k1 els' k2 hf he
      cases h
      obtain ⟨h1, h2, h3⟩ := elsOf_spec he
      refine ⟨by simp [h1], fun i cs hi => ?_, fun b hb => ?_⟩
      · cases i with
        | zero => simp at hi; subst hi; exact ⟨fs, k1, rfl, hf, fun b hb => List.mem_append_left _ hb⟩
        | succ i =>
          obtain ⟨fs', k', a, b, c⟩ := h2 i cs (by simpa using hi)
          exact ⟨fs', k', by simpa using a, b, fun y hy => List.mem_append_right _ (c y hy)⟩
      · rcases List.mem_append.1 hb with hb | hb
        · exact frozenCells_rows hf b hb
        · exact h3 b hb
    · cases h

theorem alloc_ext (w : World) (o : Obj) : Ext w (w.alloc o) := ⟨by simp, rfl, ⟨rfl, Nat.le_refl _⟩, rfl, fun k hk => heap_alloc_old w o k hk⟩
theorem alloc_at (w : World) (cur : Array Value) (t : TypeId) : (w.alloc (.cells cur t)).heap[w.heap.size]? = some (.cells cur t (0, 0)) := heap_alloc_new w _

/-- A variable made. -/
theorem made_var {ok : Nat → Prop} {cells : List AV} {vs : List Value} (h : RepL μ H w ok cells vs) (t : TypeId) : Made μ H w ok (w.alloc (.cells vs.toArray t)) (.pointer (some ⟨w.heap.size, 0, none⟩)) (.var t cells) := by
  refine ⟨w.heap.size, vs.toArray, rfl, alloc_at w _ t, by simpa using h.1, fun i x hx => ?_⟩
  obtain ⟨v, hv, hr, h1⟩ := h.get hx
  have : vs.toArray.getD i undef = v := by simp [Array.getD_eq_getD_getElem?, hv]
  rw [this]
  exact ⟨hr, h1⟩

theorem rep_zero {ok : Nat → Prop} {l : List Value} (h : l.all (·.oneCell') = true) : RepL μ H w ok (l.map AV.sc) l := by
  refine .mk (by simp) (fun i x v hx hv => ?_)
  rw [List.getElem?_map, hv] at hx
  simp at hx
  subst hx
  have := List.all_eq_true.1 h v (List.mem_of_getElem? hv)
  exact ⟨rep_sc this, this⟩

/-- A literal slice made. -/
theorem run_buildSlice {t e : TypeId} {sz len : Nat} (ht : P.underlying t = some (.slice e)) (hsz : szOf P e = some sz) (hz : ∃ z, zeroOf P e = some z ∧ z.cells.size = sz) (hs0 : 0 < sz) (hlim : len * sz ≤ 16777216) (vs : List Value) (hvs : ∀ v ∈ vs, v.cells.size = sz) (hl : vs.length = len) (parts : Array (Nat × Value))
    (hp : parts.toList = vs.zipIdx.map fun p => (p.2, p.1)) :
    (Instr.buildSlice t len parts).run P w = .ok (.slice (some ⟨w.heap.size, 0, none⟩) len len) (w.alloc (.cells (vs.map (·.cells.toList)).flatten.toArray e)) := by
  obtain ⟨z, hz1, hz2⟩ := hz
  have hf := fill_seq (sz := sz) vs 0 [] (((Array.range (len * sz)).map (z.cells[· % z.cells.size]!)).toList) (by simp) (by simp [hl]) hvs
  simp only [List.nil_append, Array.toArray_toList] at hf
  rw [← hp] at hf
  have h24 : ¬ 2 ^ 24 < len * sz := by omega
  by_cases h0 : len * sz = 0
  · have hl0 : len = 0 := by rcases Nat.mul_eq_zero.1 h0 with h | h; · exact h
                             · omega
    subst hl0
    have : vs = [] := List.eq_nil_of_length_eq_zero hl
    subst this
    simp only [List.zipIdx_nil, List.map_nil] at hp
    simp [Instr.buildSlice, run_underlying ht, run_szOf hsz, hp, Instr.fill, newRow]
    congr 1
    rw [Array.eq_empty_of_size_eq_zero (xs := Array.map (fun _ => (default : Value)) (Array.range 0)) (by simp)]
  · simp [Instr.buildSlice, run_underlying ht, run_szOf hsz, run_zeroOf hz1, h24, h0, newRow, hf]
end
end Go.Proofs.Ai
