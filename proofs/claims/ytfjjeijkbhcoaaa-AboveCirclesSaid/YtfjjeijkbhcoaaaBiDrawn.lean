/- The abstract machine, 2b: what is drawn grows. -/
import Derived.Calls
set_option linter.unusedVariables false
namespace Go.Proofs.Ai
open Go
theorem ask_drawn {α : Type} : ∀ (x : Ask α) (w : World), w.drawn ≤ (w.ask x).2.drawn
  | .done a, w => Nat.le_refl _
  | .ask what range k, w => by
    unfold World.ask
    simp only
    split
    · exact ask_drawn _ w
    · exact Nat.le_trans (Nat.le_succ _) (ask_drawn _ { w with drawn := w.drawn + 1 })
theorem sys_drawn (w : World) (c : Sys) : w.drawn ≤ (w.sys c).2.drawn := by
  have h := ask_drawn (Kernel.perform c w.os) w
  unfold World.sys
  split
  · exact Nat.le_refl _
  · rename_i heq
    rw [heq] at h
    exact h
theorem freeze_drawn (w : World) (a : Addr) (n : Nat) : (w.freeze a n).drawn = w.drawn := by unfold World.freeze; split <;> rfl
theorem bind_ok {ε α β : Type} {x : Except ε α} {f : α → Except ε β} {r : β} (h : (x >>= f) = .ok r) : ∃ a, x = .ok a ∧ f a = .ok r := by
  cases x with
  | error e => cases h
  | ok a => exact ⟨a, rfl, h⟩
theorem viewStore_drawn {p : Program} {w : World} {at_ : Addr} {u : TypeId} {k : Addr} {v : Value} {b : Bool} {r : World × List Addr} (h : w.viewStore p at_ u k v b = .ok r) : r.1.drawn = w.drawn := by
  unfold World.viewStore at h
  simp only at h
  repeat' (first
    | (obtain ⟨_, _, h⟩ := bind_ok h; try simp only at h)
    | (cases h; done)
    | (cases h; rfl)
    | split at h)
theorem farStore_drawn {p : Program} {w : World} {a : Addr} {v : Value} {b : Bool} {r : World × List Addr} (h : w.farStore p a v b = .ok r) : r.1.drawn = w.drawn := by
  unfold World.farStore at h
  split at h
  · split at h
    · rename_i h1
      cases h
      exact viewStore_drawn h1
    · cases h
  · cases h
theorem run_drawn {α : Type} {p : Program} : ∀ (e : Sem α) {w : World} {a : α} {w' : World}, e.run p w = .ok a w' → w.drawn ≤ w'.drawn := by
  intro e
  induction e with
  | pure a => intro w a' w' h; simp only [Sem.run] at h; cases h; exact Nat.le_refl _
  | load m a k ih =>
    intro w a' w' h
    simp only [Sem.run] at h
    split at h
    · exact ih _ h
    · split at h
      · exact ih _ h
      · cases h
  | store m a v k ih =>
    intro w a' w' h
    cases v <;> simp only [Sem.run] at h <;> first | (cases h; done) | skip
    all_goals
      split at h
      · split at h
        · cases h
        · have h2 := ih h
          exact h2
      · split at h
        · rename_i w2 _ hf
          have := farStore_drawn hf
          simp only at this
          have h2 := ih h
          omega
        · cases h
  | new o k ih => intro w a' w' h; have h2 := ih _ h; exact h2
  | shape r k ih => intro w a' w' h; exact ih _ h
  | freeze a n k ih => intro w a' w' h; have := ih h; rw [freeze_drawn] at this; exact this
  | frozen a k ih => intro w a' w' h; exact ih _ h
  | getObj r k ih =>
    intro w a' w' h
    simp only [Sem.run] at h
    split at h
    · cases h
    · exact ih _ h
    · cases h
  | setObj r o k ih =>
    intro w a' w' h
    simp only [Sem.run] at h
    split at h
    · cases h
    · have h2 := ih h
      exact h2
    · cases h
  | choose q k ih =>
    intro w a' w' h
    simp only [Sem.run] at h
    split at h
    · exact ih _ h
    · have h2 := ih _ h
      exact Nat.le_trans (Nat.le_succ _) h2
  | sys c k ih => intro w a' w' h; exact Nat.le_trans (sys_drawn w c) (ih _ h)
  | program k ih => intro w a' w' h; exact ih _ h
  | mark m k ih => intro w a' w' h; exact ih h
  | halt h => intro w a' w' h; cases h
/-- The same tape, read on. -/
def TapeOK (w w' : World) : Prop := w'.tape = w.tape ∧ w.drawn ≤ w'.drawn
theorem TapeOK.refl (w : World) : TapeOK w w := ⟨rfl, Nat.le_refl _⟩
theorem TapeOK.trans {a b c : World} (k : TapeOK b c) (h : TapeOK a b) : TapeOK a c := ⟨k.1.trans h.1, Nat.le_trans h.2 k.2⟩
theorem TapeOK.run {α : Type} {p : Program} {e : Sem α} {w w' : World} {a : α} (h : e.run p w = .ok a w') (ht : w'.tape = w.tape) : TapeOK w w' := ⟨ht, run_drawn e h⟩
end Go.Proofs.Ai
