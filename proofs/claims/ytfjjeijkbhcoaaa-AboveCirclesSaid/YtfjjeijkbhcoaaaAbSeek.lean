/- Plain: where a uid stands among rows in their order. -/
import Derived.Test.YtfjjeijkbhcoaaaAbPut
set_option linter.unusedVariables false
set_option linter.unusedSimpArgs false
namespace Go.Proofs.Ai
open Go

theorem bs_spec (p : Nat → Bool) (n : Nat) (hm : ∀ a b, a ≤ b → b < n → p b = true → p a = true) : ∀ (f i j : Nat), i ≤ j → j ≤ n → j - i ≤ f → (∀ k, k < i → p k = true) → (∀ k, j ≤ k → k < n → p k = false) →
    i ≤ bs p f i j ∧ bs p f i j ≤ j ∧ (∀ k, k < bs p f i j → p k = true) ∧ ∀ k, bs p f i j ≤ k → k < n → p k = false
  | 0, i, j, hij, hj, hf, h1, h2 => by
    have : i = j := by omega
    subst this
    exact ⟨Nat.le_refl _, Nat.le_refl _, h1, h2⟩
  | f + 1, i, j, hij, hj, hf, h1, h2 => by
    unfold bs
    by_cases hlt : i < j
    · rw [if_pos hlt]
      cases hp : p ((i + j) / 2) with
      | true =>
        rw [cond_true]
        have := bs_spec p n hm f ((i + j) / 2 + 1) j (by omega) hj (by omega) (fun k hk => hm k _ (by omega) (by omega) hp) h2
        exact ⟨by omega, this.2.1, this.2.2⟩
      | false =>
        rw [cond_false]
        have := bs_spec p n hm f i ((i + j) / 2) (by omega) (by omega) (by omega) h1 (fun k hk hkn => by
          cases h : p k with
          | false => rfl
          | true => rw [hm _ k hk hkn h] at hp; cases hp)
        exact ⟨this.1, by omega, this.2.2⟩
    · rw [if_neg hlt]
      exact ⟨Nat.le_refl _, hij, h1, fun k hk => h2 k (by omega)⟩

/-- In the order of their uids, each once. -/
def Srt (els : List (List FV)) : Prop := els.Pairwise fun x y => ltU (uidOf x) (uidOf y) = true
theorem Srt.get {els : List (List FV)} (h : Srt els) {i j : Nat} {x y : List FV} (hij : i < j) (hi : els[i]? = some x) (hj : els[j]? = some y) : ltU (uidOf x) (uidOf y) = true := by
  obtain ⟨hi', rfl⟩ := List.getElem?_eq_some_iff.1 hi
  obtain ⟨hj', rfl⟩ := List.getElem?_eq_some_iff.1 hj
  exact List.pairwise_iff_getElem.1 h i j hi' hj' hij
theorem ltU_ne {x y : Uid} (h : ltU x y = true) : x ≠ y := fun e => by rw [e, ltU_irrefl] at h; cases h

theorem seek_spec {els : List (List FV)} (h : Srt els) (u : Uid) : seek els u ≤ els.length ∧ (∀ k x, k < seek els u → els[k]? = some x → ltU (uidOf x) u = true) ∧ ∀ k x, seek els u ≤ k → els[k]? = some x → ltU (uidOf x) u = false := by
  have hgd : ∀ {k : Nat} {x : List FV}, els[k]? = some x → els.getD k [] = x := fun hx => by rw [List.getD_eq_getElem?_getD, hx]; rfl
  have := bs_spec (fun k => ltU (uidOf (els.getD k [])) u) els.length (fun a b hab hb hp => by
    rcases Nat.lt_or_ge a b with hlt | hge
    · have ha : els[a]? = some els[a] := List.getElem?_eq_getElem (by omega)
      have hb' : els[b]? = some els[b] := List.getElem?_eq_getElem hb
      simp only [hgd ha, hgd hb'] at *
      exact ltU_trans (h.get hlt ha hb') hp
    · have : a = b := by omega
      rw [this]; exact hp) els.length 0 els.length (Nat.zero_le _) (Nat.le_refl _) (by omega) (fun k hk => by omega) (fun k h1 h2 => by omega)
  refine ⟨this.2.1, fun k x hk hx => ?_, fun k x hk hx => ?_⟩
  · have := this.2.2.1 k hk
    simp only [hgd hx] at this
    exact this
  · have := this.2.2.2 k hk (List.getElem?_eq_some_iff.1 hx).1
    simp only [hgd hx] at this
    exact this
theorem seek_at {els : List (List FV)} (h : Srt els) {i : Nat} {x : List FV} (hx : els[i]? = some x) : seek els (uidOf x) = i := by
  obtain ⟨h1, h2, h3⟩ := seek_spec h (uidOf x)
  rcases Nat.lt_trichotomy (seek els (uidOf x)) i with hlt | he | hgt
  · have hi := (List.getElem?_eq_some_iff.1 hx).1
    have hy : els[seek els (uidOf x)]? = some (els[seek els (uidOf x)]'(by omega)) := List.getElem?_eq_getElem (by omega)
    have g1 := h3 _ _ (Nat.le_refl _) hy
    have g2 := h.get hlt hy hx
    rw [g1] at g2
    cases g2
  · exact he
  · have := h2 i x hgt hx
    rw [ltU_irrefl] at this
    cases this
theorem foundAt_at {els : List (List FV)} (h : Srt els) {i : Nat} {x : List FV} (hx : els[i]? = some x) : foundAt els (uidOf x) = true := by
  unfold foundAt
  rw [seek_at h hx, hx]
  simp
theorem entAt_at {els : List (List FV)} (h : Srt els) {i : Nat} {x : List FV} (hx : els[i]? = some x) : entAt els (uidOf x) = x := by
  unfold entAt
  rw [if_pos (foundAt_at h hx), seek_at h hx, List.getD_eq_getElem?_getD, hx]
  rfl
theorem foundAt_iff {els : List (List FV)} (h : Srt els) (u : Uid) : foundAt els u = true ↔ u ∈ els.map uidOf := by
  constructor
  · intro hf
    obtain ⟨h1, h2⟩ := entAt_found hf
    exact List.mem_map.2 ⟨_, h1, h2⟩
  · intro hm
    obtain ⟨x, hx, rfl⟩ := List.mem_map.1 hm
    obtain ⟨i, hi⟩ := List.getElem?_of_mem hx
    exact foundAt_at h hi
end Go.Proofs.Ai
