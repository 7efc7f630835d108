/- The abstract machine, 17: the front of a region of open order. -/
import Derived.Test.YtfjjeijkbhcoaaaBiDraw1
set_option linter.unusedVariables false
set_option linter.unusedSimpArgs false
namespace Go.Proofs.Ai
open Go

section
variable {P : Program} {T : Tab} {call : CallF} {ops : Array Oper}

/-- The blocks of a listed set. -/
def hAt (s : St) (p : Nat → Bool) (F : Front) : AHeap := heapAt p s.heap F.made
def dOf (ops : Array Oper) (i : Nat) : Nat → Bool := ((waits ops.toList).getD i 0).testBit

/-- Shape of one step of the front. -/
theorem front1_shape {ws : List Nat} {s : St} {F F' : Front} {i : Nat} {o : Oper} (h : front1 P T call ops ws s F i o = some F') :
    ∃ v nm, F'.done = F.done ++ [(i, o.dst, v)] ∧ F'.made = F.made ++ nm ∧ (nm = [] ∨ ∃ B, nm = [(i, B)]) ∧ (All F'.cond → All F.cond) := by
  unfold front1 at h
  simp only at h
  split at h
  · cases h
  · cases h; exact ⟨_, [], rfl, by simp, .inl rfl, id⟩
  · split at h
    · split at h
      · cases h; exact ⟨_, [], rfl, by simp, .inl rfl, fun hc => (All_app.1 hc).2⟩
      · cases h
    · split at h
      · cases h; exact ⟨_, _, rfl, rfl, .inr ⟨_, rfl⟩, fun hc => (All_app.1 hc).2⟩
      · cases h
    · split at h
      · split at h
        · cases h; exact ⟨_, [], rfl, by simp, .inl rfl, fun hc => (All_app.1 hc).2⟩
        · cases h
      · cases h
    · cases h

/-- All steps of the front. -/
structure Fronts (P : Program) (T : Tab) (call : CallF) (ops : Array Oper) (s : St) (m : Nat) (g : Nat → Front) : Prop where
  zero : g 0 = { done := [], made := [], hints := s.hints, cond := s.cond }
  step : ∀ i, i < m → ∃ o, ops[i]? = some o ∧ front1 P T call ops (waits ops.toList) s (g i) i o = some (g (i + 1))
  le : m ≤ ops.size

theorem frontRun_chain {ws : List Nat} {s : St} : ∀ (os : List Oper) (i0 : Nat) (F F' : Front), frontRun P T call ops ws s i0 os F = some F' → ∃ g : Nat → Front, g i0 = F ∧ g (i0 + os.length) = F' ∧
    ∀ k, k < os.length → ∃ o, os[k]? = some o ∧ front1 P T call ops ws s (g (i0 + k)) (i0 + k) o = some (g (i0 + k + 1))
  | [], i0, F, F', h => by simp [frontRun] at h; subst h; exact ⟨fun _ => F, rfl, rfl, fun k hk => by simp at hk⟩
  | o :: r, i0, F, F', h => by
    simp only [frontRun] at h
    split at h
    · rename_i F1 h1
      obtain ⟨g, g1, g2, g3⟩ := frontRun_chain r (i0 + 1) F1 F' h
      refine ⟨fun i => if i = i0 then F else g i, by simp, ?_, fun k hk => ?_⟩
      · have : ¬ i0 + (o :: r).length = i0 := by simp
        simp only [this, if_false]
        rw [← g2]; congr 1; simp; omega
      · cases k with
        | zero =>
          refine ⟨o, rfl, ?_⟩
          have : ¬ i0 + 0 + 1 = i0 := by omega
          simp only [Nat.add_zero, if_true, this, if_false]
          rw [show i0 + 1 = i0 + 1 from rfl, g1]
          simpa using h1
        | succ k =>
          obtain ⟨o', ho, hf⟩ := g3 k (by simpa using hk)
          refine ⟨o', by simpa using ho, ?_⟩
          have a1 : ¬ i0 + (k + 1) = i0 := by omega
          have a2 : ¬ i0 + (k + 1) + 1 = i0 := by omega
          simp only [a1, a2, if_false]
          rw [show i0 + (k + 1) = i0 + 1 + k from by omega]
          exact hf
    · cases h

theorem drawOK_spec (h : drawOK ops = true) : Down ops ∧ ∀ i j oi oj, ops[i]? = some oi → ops[j]? = some oj → j < i → conflicts ops oi oj = true → dOf ops i j = true := by
  unfold drawOK at h
  simp only [List.all_eq_true, List.mem_range] at h
  refine ⟨fun i o ho e he hb => ?_, fun i j oi oj hi hj hlt hcf => ?_⟩
  · have hi : i < ops.size := (Array.getElem?_eq_some_iff.1 ho).1
    have := h i hi
    simp only [ho, Bool.and_eq_true, List.all_eq_true] at this
    have := this.1.1 e he
    simp [hb] at this
    exact this
  · have hi' : i < ops.size := (Array.getElem?_eq_some_iff.1 hi).1
    have := h i hi'
    simp only [hi, Bool.and_eq_true, List.all_eq_true, List.mem_range] at this
    have := this.2 j hlt
    simp only [hj, hcf, Bool.not_true, Bool.false_or] at this
    exact this

namespace Fronts
variable {s : St} {m : Nat} {g : Nat → Front} (hF : Fronts P T call ops s m g)
include hF

theorem rest {i j : Nat} (hij : i ≤ j) (hj : j ≤ m) : ∃ d nm, (g j).done = (g i).done ++ d ∧ (g j).made = (g i).made ++ nm ∧ (∀ e ∈ d, i ≤ e.1 ∧ e.1 < j) ∧ (∀ e ∈ nm, i ≤ e.1 ∧ e.1 < j) ∧ (All (g j).cond → All (g i).cond) := by
  induction j with
  | zero =>
    obtain rfl : i = 0 := by omega
    exact ⟨[], [], by simp, by simp, by simp, by simp, id⟩
  | succ j ih =>
    rcases Nat.lt_or_ge i (j + 1) with hlt | hge
    · obtain ⟨d, nm, h1, h2, h3, h4, h5⟩ := ih (by omega) (by omega)
      obtain ⟨o, ho, hf⟩ := hF.step j (by omega)
      obtain ⟨v, nm', e1, e2, e3, e4⟩ := front1_shape hf
      refine ⟨d ++ [(j, o.dst, v)], nm ++ nm', by rw [e1, h1]; simp, by rw [e2, h2]; simp, ?_, ?_, fun hc => h5 (e4 hc)⟩
      · intro e he
        rcases List.mem_append.1 he with he | he
        · have := h3 e he; omega
        · simp at he; subst he; simp; omega
      · intro e he
        rcases List.mem_append.1 he with he | he
        · have := h4 e he; omega
        · rcases e3 with rfl | ⟨B, rfl⟩
          · cases he
          · simp at he; subst he; simp; omega
    · obtain rfl : i = j + 1 := by omega
      exact ⟨[], [], by simp, by simp, by simp, by simp, id⟩
theorem lt {i : Nat} (hi : i ≤ m) : (∀ e ∈ (g i).done, e.1 < i) ∧ ∀ e ∈ (g i).made, e.1 < i := by
  obtain ⟨d, nm, h1, h2, h3, h4, _⟩ := hF.rest (Nat.zero_le i) hi
  rw [hF.zero] at h1 h2
  simp at h1 h2
  rw [h1, h2]
  exact ⟨fun e he => (h3 e he).2, fun e he => (h4 e he).2⟩
end Fronts

/-- What a value laid speaks of: what was live; the new block. -/
def VOK (H : AHeap) (n : Prop) (v : AV) : Prop := ∀ p : Nat → Bool, (∀ c, liveIn H c = true → p c = true) → (n → p H.length = true) → refsIn p v = true
def BOK (ops : Array Oper) (s : St) (g : Nat → Front) (j : Nat) (B : Blk) : Prop := refsInB (liveIn (hAt s (dOf ops j) (g j))) (some B) = true

theorem Fronts.val {s : St} {m : Nat} {g : Nat → Front} (hF : Fronts P T call ops s m g) {j : Nat} (hj : j < m) : ∃ o v nm, ops[j]? = some o ∧ (g (j + 1)).done = (g j).done ++ [(j, o.dst, v)] ∧ (g (j + 1)).made = (g j).made ++ nm ∧ (nm = [] ∨ ∃ B, nm = [(j, B)] ∧ BOK ops s g j B) ∧ VOK (hAt s (dOf ops j) (g j)) (nm ≠ []) v := by
  obtain ⟨o, ho, h⟩ := hF.step j hj
  refine ⟨o, ?_⟩
  unfold front1 at h
  simp only at h
  generalize g (j + 1) = F' at h ⊢
  split at h
  · cases h
  · cases h; exact ⟨.tup [], [], ho, rfl, by simp, .inl rfl, fun p _ _ => rfl⟩
  · split at h
    · split at h
      · rename_i v hs c _ hv
        cases h; exact ⟨v, [], ho, rfl, by simp, .inl rfl, fun p hp _ => refsIn_mono hp _ hv⟩
      · cases h
    · split at h
      · rename_i B hs c _ hB
        cases h
        refine ⟨_, _, ho, rfl, rfl, .inr ⟨B, rfl, hB⟩, fun p _ hp => ?_⟩
        have := hp (by simp)
        cases B <;> exact this
      · cases h
    · split at h
      · split at h
        · rename_i R _ hc
          simp only [Bool.and_eq_true] at hc
          cases h; exact ⟨R.r, [], ho, rfl, by simp, .inl rfl, fun p hp _ => refsIn_mono (fun c hc => by cases hc) _ hc.2⟩
        · cases h
      · cases h
    · cases h
end
end Go.Proofs.Ai
