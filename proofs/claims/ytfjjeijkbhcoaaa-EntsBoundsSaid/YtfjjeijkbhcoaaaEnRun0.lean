/- EntsBounds: its runs, 0. -/
import Derived.Test.YtfjjeijkbhcoaaaEnRun
set_option linter.unusedVariables false
namespace Go.Proofs.Ai
open Go
theorem ents_0_0 (a b : Int) : entsRun a b [.br false, .br false, .is .rem (.int .i64 0), .br true] = some (.sc (.bool true), true, [(Int.tmod a 3 == 0) = true, Value.int .i64 (Int.tmod b 4) = .int .i64 0, decide (b < 0) = false, (!true) = false]) := by kernel_rfl
theorem ents_0_1 (a b : Int) : entsRun a b [.br false, .br false, .is .rem (.int .i64 1), .br true] = some (.sc (.bool true), true, [(Int.tmod a 3 == 0) = true, Value.int .i64 (Int.tmod b 4) = .int .i64 1, decide (b < 0) = false, (!true) = false]) := by kernel_rfl
theorem ents_0_2 (a b : Int) : entsRun a b [.br false, .br false, .is .rem (.int .i64 2), .br true] = some (.sc (.bool true), true, [(Int.tmod a 3 == 0) = true, Value.int .i64 (Int.tmod b 4) = .int .i64 2, decide (b < 0) = false, (!true) = false]) := by kernel_rfl
theorem ents_0_3 (a b : Int) : entsRun a b [.br false, .br false, .is .rem (.int .i64 3), .br true] = some (.sc (.bool true), true, [(Int.tmod a 3 == 0) = true, Value.int .i64 (Int.tmod b 4) = .int .i64 3, decide (b < 0) = false, (!true) = false]) := by kernel_rfl
end Go.Proofs.Ai
