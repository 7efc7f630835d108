/- EntsBounds: all its runs. -/
import Derived.Test.YtfjjeijkbhcoaaaEnKnown
import Derived.Test.YtfjjeijkbhcoaaaAiPost
set_option linter.unusedVariables false
set_option linter.unusedSimpArgs false
namespace Go.Proofs.Ai
open Go

theorem known_run : sumOf (acall Try.prog T1 Γ1 Δ1 60 21 [] [] []) = some (.sc (.bool true), true, []) := by kernel_rfl

def Γ2 : PureT := fun f l => match f, l with
  | 21, [] => some (.sc (.bool true), true)
  | _, _ => none

noncomputable def entsRun (a b : Int) (hs : List Hint) : Option (AV × Bool × List Prop) := sumOf (acall Try.prog T1 Γ2 Δ1 60 3 [.sc (.int .i64 a), .sc (.int .i64 b)] [] hs)
theorem ents_neg (a b : Int) : entsRun a b [.br false, .br true] = some (.sc (.bool true), true, [decide (b < 0) = true, (!true) = false]) := by kernel_rfl
end Go.Proofs.Ai
