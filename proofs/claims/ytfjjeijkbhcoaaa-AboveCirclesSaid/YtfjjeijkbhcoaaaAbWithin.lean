/- Contracts: a number from 0 to n - 1. -/
import Derived.Test.YtfjjeijkbhcoaaaBiCon
set_option linter.unusedVariables false
set_option linter.unusedSimpArgs false
namespace Go.Proofs.Ai
open Go

theorem within_of (f : Nat) (h1 : ∀ a n : Int, callC Γnil Δnil f [.int a, .int n] [.ok, .br true] = some (.int (IntKind.i64.wrap (a.tmod n + n)), true, [decide (a.tmod n < 0) = true, n ≠ 0]))
    (h2 : ∀ a n : Int, callC Γnil Δnil f [.int a, .int n] [.ok, .br false] = some (.int (a.tmod n), true, [decide (a.tmod n < 0) = false, n ≠ 0])) (a n : Int) (hn : 0 < n ∧ n ≤ 1000000000000) : PureAt Try.prog f [.int a, .int n] (.int (a % n)) true := by
  refine PureAt.scalar ?_
  have hmod : a.tmod n = if 0 ≤ a ∨ n ∣ a then a % n else a % n - n := by
    rw [Int.tmod_eq_emod]
    split
    · simp
    · simp [Int.natAbs_of_nonneg (Int.le_of_lt hn.1)]
  have h0 := Int.emod_nonneg a (show n ≠ 0 by omega)
  have h3 := Int.emod_lt_of_pos a hn.1
  by_cases hneg : a.tmod n < 0
  · have := pure_run Γnil_ok Δnil_ok (h1 a n) ⟨by simpa using hneg, by omega, trivial⟩
    have he : IntKind.i64.wrap (a.tmod n + n) = a % n := by
      rw [hmod] at hneg ⊢
      split at hneg
      · omega
      · rename_i hh
        rw [if_neg hh, IntWalk.i64_in _ (by omega)]
        omega
    rw [he] at this
    exact this
  · have := pure_run Γnil_ok Δnil_ok (h2 a n) ⟨by simpa using hneg, by omega, trivial⟩
    have he : a.tmod n = a % n := by
      rw [hmod] at hneg ⊢
      split
      · rfl
      · rename_i hh
        rw [if_neg hh] at hneg
        have : a % n - n < 0 := by omega
        exact absurd this hneg
    rw [he] at this
    exact this
set_option maxRecDepth 100000
theorem c26 : ∀ (a n : Int), 0 < n ∧ n ≤ 1000000000000 → PureAt Try.prog 26 [.int a, .int n] (.int (a % n)) true := within_of 26 (fun a n => by kernel_rfl) (fun a n => by kernel_rfl)
theorem c37 : ∀ (a n : Int), 0 < n ∧ n ≤ 1000000000000 → PureAt Try.prog 37 [.int a, .int n] (.int (a % n)) true := within_of 37 (fun a n => by kernel_rfl) (fun a n => by kernel_rfl)
theorem c45 : ∀ (a n : Int), 0 < n ∧ n ≤ 1000000000000 → PureAt Try.prog 45 [.int a, .int n] (.int (a % n)) true := within_of 45 (fun a n => by kernel_rfl) (fun a n => by kernel_rfl)
theorem c64 : ∀ (a n : Int), 0 < n ∧ n ≤ 1000000000000 → PureAt Try.prog 64 [.int a, .int n] (.int (a % n)) true := within_of 64 (fun a n => by kernel_rfl) (fun a n => by kernel_rfl)
theorem c69 : ∀ (a n : Int), 0 < n ∧ n ≤ 1000000000000 → PureAt Try.prog 69 [.int a, .int n] (.int (a % n)) true := within_of 69 (fun a n => by kernel_rfl) (fun a n => by kernel_rfl)
theorem c86 : ∀ (a n : Int), 0 < n ∧ n ≤ 1000000000000 → PureAt Try.prog 86 [.int a, .int n] (.int (a % n)) true := within_of 86 (fun a n => by kernel_rfl) (fun a n => by kernel_rfl)
theorem c115 : ∀ (a n : Int), 0 < n ∧ n ≤ 1000000000000 → PureAt Try.prog 115 [.int a, .int n] (.int (a % n)) true := within_of 115 (fun a n => by kernel_rfl) (fun a n => by kernel_rfl)
end Go.Proofs.Ai
