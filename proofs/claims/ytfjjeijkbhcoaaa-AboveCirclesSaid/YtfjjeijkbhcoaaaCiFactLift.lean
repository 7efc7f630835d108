/- Facts of the whole program that every row asks for, each a theorem of its own (together they outgrow the lid on memory). -/
import Derived.Test.YtfjjeijkbhcoaaaRows
import Derived.ProofKit
namespace Go.Proofs.Ytfjjeijkbhcoaaa
theorem fact_lift : (Rows.aboveCirclesRow.lifted == Try.prog.liftsFinal) = true := by kernel_rfl
end Go.Proofs.Ytfjjeijkbhcoaaa
