/- The abstract machine, 8: operations: a slice's elements, addresses, pieces, lengths, stores. -/
import Derived.Test.YtfjjeijkbhcoaaaBiOps1
set_option linter.unusedVariables false
set_option linter.unusedSimpArgs false
namespace Go.Proofs.Ai
open Go

theorem idx_lt {n sz i j : Nat} (hi : i < n) (hj : j < sz) : i * sz + j < n * sz := by
  have : (i + 1) * sz ≤ n * sz := Nat.mul_le_mul_right _ hi
  rw [Nat.add_mul] at this
  omega
theorem div_of_idx {sz i j : Nat} (hj : j < sz) : (i * sz + j) / sz = i := by
  rw [Nat.mul_comm, Nat.mul_add_div (by omega), Nat.div_eq_of_lt hj, Nat.add_zero]
theorem mod_of_idx {sz i j : Nat} (hj : j < sz) : (i * sz + j) % sz = j := by
  rw [Nat.mul_comm, Nat.mul_add_mod, Nat.mod_eq_of_lt hj]

section
variable {X : Nat → Prop} {μ : Nat → Value} {H : AHeap} {w : World} {P : Program}

theorem elsA_sc {sz : Nat} {v : Value} {els : List (List FV)} (h : elsA H sz (.fz (.sc v)) = some els) : ∃ A c, v = .slice A 0 c ∧ els = [] := by
  unfold elsA at h
  split at h
  · rename_i heq; simp only [AV.fz.injEq, FV.sc.injEq] at heq; cases h; exact ⟨_, _, heq, rfl⟩
  · rename_i heq; simp at heq
  · rename_i heq; simp at heq
  · rename_i heq; simp at heq
  · cases h
theorem lenA_sc {v : Value} {n : Int} (h : lenA H (.fz (.sc v)) = some n) : (∃ s, v = .string s ∧ n = s.size) ∨ ∃ A c, v = .slice A 0 c ∧ n = 0 := by
  unfold lenA at h
  split at h
  · rename_i heq; simp only [AV.fz.injEq, FV.sc.injEq] at heq; cases h; exact .inl ⟨_, heq, rfl⟩
  · rename_i heq; simp only [AV.fz.injEq, FV.sc.injEq] at heq; cases h; exact .inr ⟨_, _, heq, rfl⟩
  · rename_i heq; simp at heq
  · rename_i heq; simp at heq
  · rename_i heq; simp at heq
  · cases h

structure Reads (w : World) (ok : Nat → Prop) (sz : Nat) (els : List (List FV)) (u : Value) (A : Option Addr) (c : Nat) (vals : List Value) : Prop where
  val : u = .slice A els.length c
  cap : els.length ≤ c
  len : vals.length = els.length * sz
  lens : ∀ (i : Nat) (x : List FV), els[i]? = some x → x.length = sz
  none : A = none → els = []
  cells : ∀ ad, A = some ad → ∀ (j : Nat) (v : Value), vals[j]? = some v → w.cell? (ad.add j) = some v
  reps : ∀ (i j : Nat) (x : List FV) (f : FV), els[i]? = some x → x[j]? = some f → RepF w ok f (vals.getD (i * sz + j) undef)

theorem Reads.ones {ok : Nat → Prop} {sz : Nat} {els : List (List FV)} {u : Value} {A : Option Addr} {c : Nat} {vals : List Value} (h : Reads w ok sz els u A c vals) : ∀ v ∈ vals, v.oneCell' = true := by
  intro v hv
  obtain ⟨k, hk, rfl⟩ := List.getElem_of_mem hv
  have hlt := hk
  rw [h.len] at hlt
  have hsz : 0 < sz := by rcases Nat.eq_zero_or_pos sz with h0 | h0; · subst h0; simp at hlt
                          · exact h0
  have hi : k / sz < els.length := by rw [Nat.div_lt_iff_lt_mul hsz]; exact hlt
  have hj : k % sz < sz := Nat.mod_lt _ hsz
  have hx := List.getElem?_eq_getElem hi
  have hl := h.lens _ _ hx
  have hf : (els[k / sz])[k % sz]? = some ((els[k / sz])[k % sz]'(by omega)) := List.getElem?_eq_getElem _
  have := (h.reps _ _ _ _ hx hf).one
  rw [Nat.mul_comm, Nat.div_add_mod] at this
  simpa [List.getD_eq_getElem?_getD, List.getElem?_eq_getElem hk] using this

theorem els_read (h : Rel X μ H w) {sz : Nat} {x : AV} {els : List (List FV)} {u : Value} (hx : Rep μ H w (Fz X μ H w) x u) (he : elsA H sz x = some els) : ∃ A c vals, Reads w (Fz X μ H w) sz els u A c vals := by
  cases hx with
  | fz hf =>
    cases hf with
    | sc h1 =>
      obtain ⟨A, c, rfl, rfl⟩ := elsA_sc he
      exact ⟨A, c, [], rfl, Nat.zero_le _, by simp, fun i x hx => (by simp at hx), fun _ => rfl, fun ad h j v hv => (by simp at hv), fun i j x f hx => (by simp at hx)⟩
    | mp => simp [elsA] at he
    | nil =>
      rename_i sz' A c
      simp only [elsA] at he
      split at he
      · cases he
        exact ⟨A, c, [], rfl, Nat.zero_le _, by simp, fun i x hx => (by simp at hx), fun _ => rfl, fun ad h j v hv => (by simp at hv), fun i j x f hx => by simp at hx⟩
      · cases he
    | sl U hc hok hsz hcell hrep =>
      rename_i sz' xs ad c
      simp only [elsA] at he
      split at he
      · rename_i hs
        simp only [Option.some.injEq] at he
        subst he
        subst hs
        refine ⟨some ad, c, (List.range (xs.length * sz')).map fun k => U (k / sz') (k % sz'), rfl, hc, by simp, hsz, fun h => (by cases h), fun ad' ha k v hv => ?_, fun i j x f hx hf => ?_⟩
        · cases ha
          have hlt : k < xs.length * sz' := by have := (List.getElem?_eq_some_iff.1 hv).1; simpa using this
          rw [List.getElem?_map, List.getElem?_range hlt, Option.map_some] at hv
          cases hv
          · skip
            have hs0 : 0 < sz' := by rcases Nat.eq_zero_or_pos sz' with h0 | h0; · subst h0; simp at hlt
                                     · exact h0
            have hi : k / sz' < xs.length := by rw [Nat.div_lt_iff_lt_mul hs0]; exact hlt
            have hj : k % sz' < sz' := Nat.mod_lt _ hs0
            have hx := List.getElem?_eq_getElem hi
            have hl := hsz _ _ hx
            have hf : (xs[k / sz'])[k % sz']? = some ((xs[k / sz'])[k % sz']'(by omega)) := List.getElem?_eq_getElem _
            have := hcell _ _ _ _ hx hf
            rwa [Nat.mul_comm, Nat.div_add_mod] at this
        · have hi : i < xs.length := (List.getElem?_eq_some_iff.1 hx).1
          have hj : j < sz' := by rw [← hsz i x hx]; exact (List.getElem?_eq_some_iff.1 hf).1
          have : ((List.range (xs.length * sz')).map fun k => U (k / sz') (k % sz')).getD (i * sz' + j) undef = U i j := by
            simp [List.getD_eq_getElem?_getD, List.getElem?_range (idx_lt hi hj), div_of_idx hj, mod_of_idx hj]
          rw [this]
          exact hrep i j x f hx hf
      · cases he
  | own hb hv h1 =>
    rename_i b ty sz' els'
    simp only [elsA, hb] at he
    split at he
    · rename_i hs
      simp only [Option.some.injEq] at he
      subst he
      subst hs
      obtain ⟨hsz, hels, vals, ho, hvv⟩ := h.blk b _ hb
      rw [hv]
      rcases ho.2 with ⟨e, hn⟩ | ⟨g, cap, cur, e, _, hh, hnc, _⟩
      · have hnil : els' = [] := List.eq_nil_of_length_eq_zero hn
        refine ⟨none, 0, vals, by rw [e, hn], by omega, ho.1, hels, fun _ => hnil, fun ad h => (by cases h), hvv⟩
      · refine ⟨some ⟨g, 0, none⟩, cap, vals, e, hnc, ho.1, hels, fun h => (by cases h), fun ad ha j v hv => ?_, hvv⟩
        cases ha
        exact ho.cells (g := g) (by rw [e]; rfl) j v hv
    · cases he
  | vw hb hm hc hA =>
    rename_i b o m ty sz' els' A c
    simp only [elsA, hb] at he
    split at he
    · rename_i hs
      simp only [Option.some.injEq] at he
      subst he
      subst hs
      have hlen : ((els'.drop o).take m).length = m := by simp; omega
      obtain ⟨hsz, hels, vals, ho, hvv⟩ := h.blk b _ hb
      refine ⟨A, c, (vals.drop (o * sz')).take (m * sz'), by rw [hlen], by rw [hlen]; exact hc, ?_, fun i x hx => ?_, fun hn => ?_, fun ad ha j v hv => ?_, fun i j x f hx hf => ?_⟩
      · rw [hlen, List.length_take, List.length_drop, ho.1]
        have : (o + m) * sz' ≤ els'.length * sz' := Nat.mul_le_mul_right _ hm
        rw [Nat.add_mul] at this
        omega
      · rw [List.getElem?_take] at hx
        split at hx
        · rw [List.getElem?_drop] at hx; exact hels _ x hx
        · cases hx
      · rcases Nat.eq_zero_or_pos m with h0 | h0
        · subst h0; simp
        · obtain ⟨g, _, e⟩ := hA h0; rw [hn] at e; cases e
      · rcases Nat.eq_zero_or_pos m with h0 | h0
        · subst h0; simp at hv
        · obtain ⟨g, hg, e⟩ := hA h0
          rw [ha] at e
          cases e
          rw [List.getElem?_take] at hv
          split at hv
          · rw [List.getElem?_drop] at hv
            rcases ho.2 with ⟨e, _⟩ | ⟨g', cap, cur, e, _, hh, hnc, _⟩
            · rw [e] at hg; simp [blkOf] at hg
            · have : g' = g := by rw [e] at hg; simpa [blkOf] using hg
              subst this
              have hcc := ho.cells (g := g') (by rw [e]; rfl) _ v hv
              rw [add_none, Nat.zero_add] at hcc
              rw [add_none]
              exact hcc
          · cases hv
      · rw [List.getElem?_take] at hx
        split at hx
        · rename_i hi
          rw [List.getElem?_drop] at hx
          have hr := hvv (o + i) j x f hx hf
          have hj : j < sz' := by rw [← hels _ x hx]; exact (List.getElem?_eq_some_iff.1 hf).1
          have hlt := idx_lt hi hj
          have hlt2 : o * sz' + (i * sz' + j) < vals.length := by
            rw [ho.1]
            have h1 := idx_lt (n := els'.length) (i := o + i) (by omega) hj
            rw [Nat.add_mul] at h1
            omega
          have : ((vals.drop (o * sz')).take (m * sz')).getD (i * sz' + j) undef = vals.getD ((o + i) * sz' + j) undef := by
            simp only [List.getD_eq_getElem?_getD, List.getElem?_take, hlt, if_true, List.getElem?_drop]
            rw [Nat.add_mul, Nat.add_assoc]
          rw [this]
          exact hr
        · cases hx
    · cases he
  | dead hx hb hd h1 =>
    rename_i b
    cases x <;> simp [refOf] at hx <;> subst hx <;> simp [elsA, hd] at he
  | _ => simp [elsA] at he

/-! ### lengths -/
theorem len_ok (h : Rel X μ H w) {x : AV} {n : Int} {u : Value} (hx : Rep μ H w (Fz X μ H w) x u) (hl : lenA H x = some n) : (∃ s, x = .fz (.sc (.string s)) ∧ u = .string s ∧ n = s.size) ∨ ∃ A m c, u = .slice A m c ∧ n = m ∧ m ≤ c ∧ (∀ s, x ≠ .fz (.sc (.string s))) := by
  cases hx with
  | fz hf =>
    cases hf with
    | sc h1 =>
      rcases lenA_sc hl with ⟨s, rfl, rfl⟩ | ⟨A, c, rfl, rfl⟩
      · exact .inl ⟨s, rfl, rfl, rfl⟩
      · exact .inr ⟨A, 0, c, rfl, rfl, Nat.zero_le _, by simp⟩
    | mp => simp [lenA] at hl
    | nil => simp only [lenA, Option.some.injEq] at hl; exact .inr ⟨_, 0, _, rfl, hl.symm, Nat.zero_le _, by simp⟩
    | sl U hc hok hsz hcell hrep => simp only [lenA, Option.some.injEq] at hl; exact .inr ⟨_, _, _, rfl, hl.symm, hc, by simp⟩
  | own hb hv h1 =>
    rename_i b ty sz els
    simp only [lenA, hb, Option.some.injEq] at hl
    obtain ⟨hsz, hels, vals, ho, hvv⟩ := h.blk b _ hb
    rw [hv]
    rcases ho.2 with ⟨e, hn⟩ | ⟨g, cap, cur, e, _, hh, hnc, _⟩
    · exact .inr ⟨none, 0, 0, e, by rw [← hl, hn], Nat.le_refl _, by simp⟩
    · exact .inr ⟨_, _, cap, e, hl.symm, hnc, by simp⟩
  | vw hb hm hc hA => simp only [lenA, hb, Option.some.injEq] at hl; exact .inr ⟨_, _, _, rfl, hl.symm, hc, by simp⟩
  | dead hx hb hd h1 =>
    rename_i b
    cases x <;> simp [refOf] at hx <;> subst hx <;> simp [lenA, hd] at hl
  | _ => simp [lenA] at hl
end
end Go.Proofs.Ai
