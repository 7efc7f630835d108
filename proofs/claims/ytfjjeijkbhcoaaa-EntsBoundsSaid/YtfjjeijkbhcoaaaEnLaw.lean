/- EntsBounds, its law: as many entities, parents, attributes as may be are taken, one more of either is refused: whatever the two numbers, the law returns true. -/
import Derived.Test.YtfjjeijkbhcoaaaEnRun0
import Derived.Test.YtfjjeijkbhcoaaaEnRun1
import Derived.Test.YtfjjeijkbhcoaaaEnRun2
set_option linter.unusedVariables false
set_option linter.unusedSimpArgs false
namespace Go.Proofs.Ytfjjeijkbhcoaaa
open Go.Proofs.Ai

theorem Γ2_ok : PureOK Try.prog Γ2 := by
  intro f l r fresh h ok w vs _ hsz hargs
  unfold Γ2 at h
  split at h
  · simp only [Option.some.injEq, Prod.mk.injEq] at h
    obtain ⟨rfl, rfl⟩ := h
    refine (call_scalar (acall_ok T1_ok Γ1_ok Δ1_ok wide 60) known_run trivial hsz (fun i x hx => by simp at hx)).mono (fun e w' he => ?_)
    cases e with
    | returned v => obtain ⟨rfl, he⟩ := he; exact ⟨he, rep_sc rfl⟩
    | panicked c => exact he
    | outgrown => exact he
  · cases h

theorem ents_call (a b : Int) (w : World) {hs : List Hint} {c : List Prop} (hrun : entsRun a b hs = some (.sc (.bool true), true, c)) (hc : All c) : Calls Try.prog 3 #[.int .i64 a, .int .i64 b] w (onReturn fun u w' => u = .bool true ∧ Ext w w') := by
  refine call_scalar (acall_ok T1_ok Γ2_ok Δ1_ok wide 60) hrun hc rfl (fun i x hx => ?_)
  match i with
  | 0 => simp at hx; subst hx; exact rep_sc rfl
  | 1 => simp at hx; subst hx; exact rep_sc rfl
  | i + 2 => simp at hx

theorem ents_any (a b : Int) (w : World) : Calls Try.prog 3 #[.int .i64 a, .int .i64 b] w (onReturn fun u w' => u = .bool true ∧ Ext w w') := by
  by_cases hb : b < 0
  · exact ents_call a b w (ents_neg a b) ⟨by simp [hb], by decide, trivial⟩
  · have hm : Int.tmod b 4 = 0 ∨ Int.tmod b 4 = 1 ∨ Int.tmod b 4 = 2 ∨ Int.tmod b 4 = 3 := by
      have h1 : Int.tmod b 4 = b % 4 := Int.tmod_eq_emod_of_nonneg (by omega)
      omega
    have hn : decide (b < 0) = false := by simp [hb]
    by_cases h0 : (Int.tmod a 3 == 0) = true
    · rcases hm with h | h | h | h
      · exact ents_call a b w (ents_0_0 a b) ⟨h0, by rw [h], hn, by decide, trivial⟩
      · exact ents_call a b w (ents_0_1 a b) ⟨h0, by rw [h], hn, by decide, trivial⟩
      · exact ents_call a b w (ents_0_2 a b) ⟨h0, by rw [h], hn, by decide, trivial⟩
      · exact ents_call a b w (ents_0_3 a b) ⟨h0, by rw [h], hn, by decide, trivial⟩
    · have h0' : (Int.tmod a 3 == 0) = false := by simpa using h0
      by_cases h1 : (Int.tmod a 3 == 1) = true
      · rcases hm with h | h | h | h
        · exact ents_call a b w (ents_1_0 a b) ⟨h1, h0', by rw [h], hn, by decide, trivial⟩
        · exact ents_call a b w (ents_1_1 a b) ⟨h1, h0', by rw [h], hn, by decide, trivial⟩
        · exact ents_call a b w (ents_1_2 a b) ⟨h1, h0', by rw [h], hn, by decide, trivial⟩
        · exact ents_call a b w (ents_1_3 a b) ⟨h1, h0', by rw [h], hn, by decide, trivial⟩
      · have h1' : (Int.tmod a 3 == 1) = false := by simpa using h1
        rcases hm with h | h | h | h
        · exact ents_call a b w (ents_2_0 a b) ⟨h1', h0', by rw [h], hn, by decide, trivial⟩
        · exact ents_call a b w (ents_2_1 a b) ⟨h1', h0', by rw [h], hn, by decide, trivial⟩
        · exact ents_call a b w (ents_2_2 a b) ⟨h1', h0', by rw [h], hn, by decide, trivial⟩
        · exact ents_call a b w (ents_2_3 a b) ⟨h1', h0', by rw [h], hn, by decide, trivial⟩

end Go.Proofs.Ytfjjeijkbhcoaaa
