/-
  NARROWER THAN 'FOR EVERY INPUT', by the rows' own cells (each row's printed sentence says how): AboveBelow: loops · EntsOrder: loops · EntsPlay: loops · ValueOrder: loops · ValueTexts: loops · ValueMixed: loops · AboveCircles: loops · ValueAsks: loops · AboveAsks: loops · EvalHas: loops · EvalSames: loops · ValueSets: loops.
  DERIVED. THE GIVEN ROWS OF THIS SEAT. 18 by the template 'for every input the law returns true; each argument reads behind the call as it read before'; 0 by the template 'total and deterministic' (their statements: YtfjjeijkbhcoaaaTotals.lean).
  GIVEN WITH THE SEED: the statements are not yours to turn. If you find one false, say at which input.
  Laid BY PROGRAM, IN A SANDBOX (cutbox-rows.mjs): the forced cells as the released guide's own fill.sh prints them over the translation e10e45c2fcf13f07… (all of the seat's roots in one cut). By AI agents, Wed Nov 11 2026. No macro, syntax, notation, axiom, sorry.
-/
import Derived.Test.YtfjjeijkbhcoaaaChecked
import GoSem.Claim
import GoSem.ClaimJoined
import GoSem.ClaimMapViews
import Derived.JoinedTies
import Derived.KernelRfl
namespace Go.Proofs.Ytfjjeijkbhcoaaa
/- THE CELL 'sum', in the pinned program and in every row, IS THE sha256 OF THE DUMP (.gsa) THAT YtfjjeijkbhcoaaaProg.lean LOADS. Nothing in Lean hashes anything: it is a label: what it is worth is what the hold of that sum in a sandbox is worth. -/
noncomputable def Try.pinned : Pinned := { name := "ytfjjeijkbhcoaaa", sum := "e10e45c2fcf13f07fe6b322cec8e0df8c4bd20de2a7a2d9eef4e7f3952a343ba", checked := Try.checked }
namespace Rows
def none {H : Type} : Left H := { results := [], args := [] }

/-- 'chancellaw8.EntsBounds': WHATEVER THE INPUT: true; the input reads as it did. -/
def entsBoundsSpec : ChangeSpec := { name := "entsBounds", fn := fun _ => fun
  | [d1, d2] => { results := [.lit (.bool true)], args := [d1, d2] }
  | _ => none }
def entsBoundsRow : OpenClaim := { program := "ytfjjeijkbhcoaaa", sum := "e10e45c2fcf13f07fe6b322cec8e0df8c4bd20de2a7a2d9eef4e7f3952a343ba", func := "chancel/chancellaw8.EntsBounds", spec := "entsBounds", inPlace := ["slices.overlaps[chancel/api.Entity]"], unfollowed := true, recurses := true, plainKeys := false, apart := false }
def EntsBoundsSaid : Prop := entsBoundsRow.holds Try.pinned (OpenSpec.ofChange entsBoundsSpec)

/-- ITS FALSE NEIGHBOUR: 'it returns false'. Refute it at one input. -/
def entsBoundsWrong : ChangeSpec := { name := "entsBounds", fn := fun _ => fun
  | [d1, d2] => { results := [.lit (.bool false)], args := [d1, d2] }
  | _ => none }
def EntsBoundsWrongFalsely : Prop := entsBoundsRow.holds Try.pinned (OpenSpec.ofChange entsBoundsWrong)

/-- 'chancellaw9.AboveBelow': WHATEVER THE INPUT: true; the input reads as it did. -/
def aboveBelowSpec : ChangeSpec := { name := "aboveBelow", fn := fun _ => fun
  | [d1, d2] => { results := [.lit (.bool true)], args := [d1, d2] }
  | _ => none }
def aboveBelowRow : OpenClaim := { program := "ytfjjeijkbhcoaaa", sum := "e10e45c2fcf13f07fe6b322cec8e0df8c4bd20de2a7a2d9eef4e7f3952a343ba", func := "chancel/chancellaw9.AboveBelow", spec := "aboveBelow", unfollowed := true, recurses := true, loops := true, plainKeys := false, apart := false }
def AboveBelowSaid : Prop := aboveBelowRow.holds Try.pinned (OpenSpec.ofChange aboveBelowSpec)

/-- ITS FALSE NEIGHBOUR: 'it returns false'. Refute it at one input. -/
def aboveBelowWrong : ChangeSpec := { name := "aboveBelow", fn := fun _ => fun
  | [d1, d2] => { results := [.lit (.bool false)], args := [d1, d2] }
  | _ => none }
def AboveBelowWrongFalsely : Prop := aboveBelowRow.holds Try.pinned (OpenSpec.ofChange aboveBelowWrong)

/-- 'chancellaw8.EntsOrder': WHATEVER THE INPUT: true; the input reads as it did. -/
def entsOrderSpec : ChangeSpec := { name := "entsOrder", fn := fun _ => fun
  | [d] => { results := [.lit (.bool true)], args := [d] }
  | _ => none }
def entsOrderRow : OpenClaim := { program := "ytfjjeijkbhcoaaa", sum := "e10e45c2fcf13f07fe6b322cec8e0df8c4bd20de2a7a2d9eef4e7f3952a343ba", func := "chancel/chancellaw8.EntsOrder", spec := "entsOrder", inPlace := ["slices.overlaps[chancel/api.Entity]"], unfollowed := true, recurses := true, loops := true, plainKeys := false, apart := false }
def EntsOrderSaid : Prop := entsOrderRow.holds Try.pinned (OpenSpec.ofChange entsOrderSpec)

/-- ITS FALSE NEIGHBOUR: 'it returns false'. Refute it at one input. -/
def entsOrderWrong : ChangeSpec := { name := "entsOrder", fn := fun _ => fun
  | [d] => { results := [.lit (.bool false)], args := [d] }
  | _ => none }
def EntsOrderWrongFalsely : Prop := entsOrderRow.holds Try.pinned (OpenSpec.ofChange entsOrderWrong)

/-- 'chancellaw8.EntsPlay': WHATEVER THE INPUT: true; the input reads as it did. -/
def entsPlaySpec : ChangeSpec := { name := "entsPlay", fn := fun _ => fun
  | [d1, d2, d3] => { results := [.lit (.bool true)], args := [d1, d2, d3] }
  | _ => none }
def entsPlayRow : OpenClaim := { program := "ytfjjeijkbhcoaaa", sum := "e10e45c2fcf13f07fe6b322cec8e0df8c4bd20de2a7a2d9eef4e7f3952a343ba", func := "chancel/chancellaw8.EntsPlay", spec := "entsPlay", inPlace := ["slices.overlaps[chancel/api.Entity]"], unfollowed := true, recurses := true, loops := true, plainKeys := false, apart := false }
def EntsPlaySaid : Prop := entsPlayRow.holds Try.pinned (OpenSpec.ofChange entsPlaySpec)

/-- ITS FALSE NEIGHBOUR: 'it returns false'. Refute it at one input. -/
def entsPlayWrong : ChangeSpec := { name := "entsPlay", fn := fun _ => fun
  | [d1, d2, d3] => { results := [.lit (.bool false)], args := [d1, d2, d3] }
  | _ => none }
def EntsPlayWrongFalsely : Prop := entsPlayRow.holds Try.pinned (OpenSpec.ofChange entsPlayWrong)

/-- 'chancellaw3.ValueOrder': WHATEVER THE INPUT: true; the input reads as it did. -/
def valueOrderSpec : ChangeSpec := { name := "valueOrder", fn := fun _ => fun
  | [d1, d2, d3] => { results := [.lit (.bool true)], args := [d1, d2, d3] }
  | _ => none }
def valueOrderRow : OpenClaim := { program := "ytfjjeijkbhcoaaa", sum := "e10e45c2fcf13f07fe6b322cec8e0df8c4bd20de2a7a2d9eef4e7f3952a343ba", func := "chancel/chancellaw3.ValueOrder", spec := "valueOrder", inPlace := ["slices.overlaps[chancel/api.Value]"], unfollowed := true, recurses := true, loops := true, plainKeys := false, apart := false }
def ValueOrderSaid : Prop := valueOrderRow.holds Try.pinned (OpenSpec.ofChange valueOrderSpec)

/-- ITS FALSE NEIGHBOUR: 'it returns false'. Refute it at one input. -/
def valueOrderWrong : ChangeSpec := { name := "valueOrder", fn := fun _ => fun
  | [d1, d2, d3] => { results := [.lit (.bool false)], args := [d1, d2, d3] }
  | _ => none }
def ValueOrderWrongFalsely : Prop := valueOrderRow.holds Try.pinned (OpenSpec.ofChange valueOrderWrong)

/-- 'chancellaw3.ValueTexts': WHATEVER THE INPUT: true; the input reads as it did. -/
def valueTextsSpec : ChangeSpec := { name := "valueTexts", fn := fun _ => fun
  | [d1, d2] => { results := [.lit (.bool true)], args := [d1, d2] }
  | _ => none }
def valueTextsRow : OpenClaim := { program := "ytfjjeijkbhcoaaa", sum := "e10e45c2fcf13f07fe6b322cec8e0df8c4bd20de2a7a2d9eef4e7f3952a343ba", func := "chancel/chancellaw3.ValueTexts", spec := "valueTexts", inPlace := ["slices.overlaps[chancel/api.Value]"], unfollowed := true, recurses := true, loops := true, plainKeys := false, apart := false }
def ValueTextsSaid : Prop := valueTextsRow.holds Try.pinned (OpenSpec.ofChange valueTextsSpec)

/-- ITS FALSE NEIGHBOUR: 'it returns false'. Refute it at one input. -/
def valueTextsWrong : ChangeSpec := { name := "valueTexts", fn := fun _ => fun
  | [d1, d2] => { results := [.lit (.bool false)], args := [d1, d2] }
  | _ => none }
def ValueTextsWrongFalsely : Prop := valueTextsRow.holds Try.pinned (OpenSpec.ofChange valueTextsWrong)

/-- 'chancellaw3.ValueMixed': WHATEVER THE INPUT: true; the input reads as it did. -/
def valueMixedSpec : ChangeSpec := { name := "valueMixed", fn := fun _ => fun
  | [d1, d2, d3] => { results := [.lit (.bool true)], args := [d1, d2, d3] }
  | _ => none }
def valueMixedRow : OpenClaim := { program := "ytfjjeijkbhcoaaa", sum := "e10e45c2fcf13f07fe6b322cec8e0df8c4bd20de2a7a2d9eef4e7f3952a343ba", func := "chancel/chancellaw3.ValueMixed", spec := "valueMixed", inPlace := ["slices.overlaps[chancel/api.Value]"], unfollowed := true, recurses := true, loops := true, plainKeys := false, apart := false }
def ValueMixedSaid : Prop := valueMixedRow.holds Try.pinned (OpenSpec.ofChange valueMixedSpec)

/-- ITS FALSE NEIGHBOUR: 'it returns false'. Refute it at one input. -/
def valueMixedWrong : ChangeSpec := { name := "valueMixed", fn := fun _ => fun
  | [d1, d2, d3] => { results := [.lit (.bool false)], args := [d1, d2, d3] }
  | _ => none }
def ValueMixedWrongFalsely : Prop := valueMixedRow.holds Try.pinned (OpenSpec.ofChange valueMixedWrong)

/-- 'chancellaw9.AboveCircles': WHATEVER THE INPUT: true; the input reads as it did. -/
def aboveCirclesSpec : ChangeSpec := { name := "aboveCircles", fn := fun _ => fun
  | [d1, d2, d3] => { results := [.lit (.bool true)], args := [d1, d2, d3] }
  | _ => none }
def aboveCirclesRow : OpenClaim := { program := "ytfjjeijkbhcoaaa", sum := "e10e45c2fcf13f07fe6b322cec8e0df8c4bd20de2a7a2d9eef4e7f3952a343ba", func := "chancel/chancellaw9.AboveCircles", spec := "aboveCircles", inPlace := ["slices.overlaps[chancel/api.Entity]"], unfollowed := true, recurses := true, loops := true, plainKeys := false, apart := false }
def AboveCirclesSaid : Prop := aboveCirclesRow.holds Try.pinned (OpenSpec.ofChange aboveCirclesSpec)

/-- ITS FALSE NEIGHBOUR: 'it returns false'. Refute it at one input. -/
def aboveCirclesWrong : ChangeSpec := { name := "aboveCircles", fn := fun _ => fun
  | [d1, d2, d3] => { results := [.lit (.bool false)], args := [d1, d2, d3] }
  | _ => none }
def AboveCirclesWrongFalsely : Prop := aboveCirclesRow.holds Try.pinned (OpenSpec.ofChange aboveCirclesWrong)

/-- 'chancellaw3.ValueAsks': WHATEVER THE INPUT: true; the input reads as it did. -/
def valueAsksSpec : ChangeSpec := { name := "valueAsks", fn := fun _ => fun
  | [d1, d2] => { results := [.lit (.bool true)], args := [d1, d2] }
  | _ => none }
def valueAsksRow : OpenClaim := { program := "ytfjjeijkbhcoaaa", sum := "e10e45c2fcf13f07fe6b322cec8e0df8c4bd20de2a7a2d9eef4e7f3952a343ba", func := "chancel/chancellaw3.ValueAsks", spec := "valueAsks", inPlace := ["slices.overlaps[chancel/api.Value]"], unfollowed := true, recurses := true, loops := true, plainKeys := false, apart := false }
def ValueAsksSaid : Prop := valueAsksRow.holds Try.pinned (OpenSpec.ofChange valueAsksSpec)

/-- ITS FALSE NEIGHBOUR: 'it returns false'. Refute it at one input. -/
def valueAsksWrong : ChangeSpec := { name := "valueAsks", fn := fun _ => fun
  | [d1, d2] => { results := [.lit (.bool false)], args := [d1, d2] }
  | _ => none }
def ValueAsksWrongFalsely : Prop := valueAsksRow.holds Try.pinned (OpenSpec.ofChange valueAsksWrong)

/-- 'chancellaw9.AboveAsks': WHATEVER THE INPUT: true; the input reads as it did. -/
def aboveAsksSpec : ChangeSpec := { name := "aboveAsks", fn := fun _ => fun
  | [d1, d2, d3, d4] => { results := [.lit (.bool true)], args := [d1, d2, d3, d4] }
  | _ => none }
def aboveAsksRow : OpenClaim := { program := "ytfjjeijkbhcoaaa", sum := "e10e45c2fcf13f07fe6b322cec8e0df8c4bd20de2a7a2d9eef4e7f3952a343ba", func := "chancel/chancellaw9.AboveAsks", spec := "aboveAsks", inPlace := ["slices.overlaps[chancel/api.Entity]"], unfollowed := true, recurses := true, loops := true, plainKeys := false, apart := false }
def AboveAsksSaid : Prop := aboveAsksRow.holds Try.pinned (OpenSpec.ofChange aboveAsksSpec)

/-- ITS FALSE NEIGHBOUR: 'it returns false'. Refute it at one input. -/
def aboveAsksWrong : ChangeSpec := { name := "aboveAsks", fn := fun _ => fun
  | [d1, d2, d3, d4] => { results := [.lit (.bool false)], args := [d1, d2, d3, d4] }
  | _ => none }
def AboveAsksWrongFalsely : Prop := aboveAsksRow.holds Try.pinned (OpenSpec.ofChange aboveAsksWrong)

/-- 'chancellaw9.AboveChain': WHATEVER THE INPUT: true; the input reads as it did. -/
def aboveChainSpec : ChangeSpec := { name := "aboveChain", fn := fun _ => fun
  | [d1, d2, d3] => { results := [.lit (.bool true)], args := [d1, d2, d3] }
  | _ => none }
def aboveChainRow : OpenClaim := { program := "ytfjjeijkbhcoaaa", sum := "e10e45c2fcf13f07fe6b322cec8e0df8c4bd20de2a7a2d9eef4e7f3952a343ba", func := "chancel/chancellaw9.AboveChain", spec := "aboveChain", inPlace := ["slices.overlaps[chancel/api.Entity]"], unfollowed := true, recurses := true, plainKeys := false, apart := false }
def AboveChainSaid : Prop := aboveChainRow.holds Try.pinned (OpenSpec.ofChange aboveChainSpec)

/-- ITS FALSE NEIGHBOUR: 'it returns false'. Refute it at one input. -/
def aboveChainWrong : ChangeSpec := { name := "aboveChain", fn := fun _ => fun
  | [d1, d2, d3] => { results := [.lit (.bool false)], args := [d1, d2, d3] }
  | _ => none }
def AboveChainWrongFalsely : Prop := aboveChainRow.holds Try.pinned (OpenSpec.ofChange aboveChainWrong)

/-- 'chancellaw13.EvalSums': WHATEVER THE INPUT: true; the input reads as it did. -/
def evalSumsSpec : ChangeSpec := { name := "evalSums", fn := fun _ => fun
  | [d1, d2, d3, d4] => { results := [.lit (.bool true)], args := [d1, d2, d3, d4] }
  | _ => none }
def evalSumsRow : OpenClaim := { program := "ytfjjeijkbhcoaaa", sum := "e10e45c2fcf13f07fe6b322cec8e0df8c4bd20de2a7a2d9eef4e7f3952a343ba", func := "chancel/chancellaw13.EvalSums", spec := "evalSums", inPlace := ["slices.overlaps[chancel/api.Value]"], unfollowed := true, recurses := true, plainKeys := false, apart := false }
def EvalSumsSaid : Prop := evalSumsRow.holds Try.pinned (OpenSpec.ofChange evalSumsSpec)

/-- ITS FALSE NEIGHBOUR: 'it returns false'. Refute it at one input. -/
def evalSumsWrong : ChangeSpec := { name := "evalSums", fn := fun _ => fun
  | [d1, d2, d3, d4] => { results := [.lit (.bool false)], args := [d1, d2, d3, d4] }
  | _ => none }
def EvalSumsWrongFalsely : Prop := evalSumsRow.holds Try.pinned (OpenSpec.ofChange evalSumsWrong)

/-- 'chancellaw13.EvalHas': WHATEVER THE INPUT: true; the input reads as it did. -/
def evalHasSpec : ChangeSpec := { name := "evalHas", fn := fun _ => fun
  | [d1, d2, d3, d4] => { results := [.lit (.bool true)], args := [d1, d2, d3, d4] }
  | _ => none }
def evalHasRow : OpenClaim := { program := "ytfjjeijkbhcoaaa", sum := "e10e45c2fcf13f07fe6b322cec8e0df8c4bd20de2a7a2d9eef4e7f3952a343ba", func := "chancel/chancellaw13.EvalHas", spec := "evalHas", inPlace := ["slices.overlaps[chancel/api.Value]"], unfollowed := true, recurses := true, loops := true, plainKeys := false, apart := false }
def EvalHasSaid : Prop := evalHasRow.holds Try.pinned (OpenSpec.ofChange evalHasSpec)

/-- ITS FALSE NEIGHBOUR: 'it returns false'. Refute it at one input. -/
def evalHasWrong : ChangeSpec := { name := "evalHas", fn := fun _ => fun
  | [d1, d2, d3, d4] => { results := [.lit (.bool false)], args := [d1, d2, d3, d4] }
  | _ => none }
def EvalHasWrongFalsely : Prop := evalHasRow.holds Try.pinned (OpenSpec.ofChange evalHasWrong)

/-- 'chancellaw13.EvalSames': WHATEVER THE INPUT: true; the input reads as it did. -/
def evalSamesSpec : ChangeSpec := { name := "evalSames", fn := fun _ => fun
  | [d1, d2] => { results := [.lit (.bool true)], args := [d1, d2] }
  | _ => none }
def evalSamesRow : OpenClaim := { program := "ytfjjeijkbhcoaaa", sum := "e10e45c2fcf13f07fe6b322cec8e0df8c4bd20de2a7a2d9eef4e7f3952a343ba", func := "chancel/chancellaw13.EvalSames", spec := "evalSames", inPlace := ["slices.overlaps[chancel/api.Value]"], unfollowed := true, recurses := true, loops := true, plainKeys := false, apart := false }
def EvalSamesSaid : Prop := evalSamesRow.holds Try.pinned (OpenSpec.ofChange evalSamesSpec)

/-- ITS FALSE NEIGHBOUR: 'it returns false'. Refute it at one input. -/
def evalSamesWrong : ChangeSpec := { name := "evalSames", fn := fun _ => fun
  | [d1, d2] => { results := [.lit (.bool false)], args := [d1, d2] }
  | _ => none }
def EvalSamesWrongFalsely : Prop := evalSamesRow.holds Try.pinned (OpenSpec.ofChange evalSamesWrong)

/-- 'chancellaw13.EvalVars': WHATEVER THE INPUT: true; the input reads as it did. -/
def evalVarsSpec : ChangeSpec := { name := "evalVars", fn := fun _ => fun
  | [d1, d2] => { results := [.lit (.bool true)], args := [d1, d2] }
  | _ => none }
def evalVarsRow : OpenClaim := { program := "ytfjjeijkbhcoaaa", sum := "e10e45c2fcf13f07fe6b322cec8e0df8c4bd20de2a7a2d9eef4e7f3952a343ba", func := "chancel/chancellaw13.EvalVars", spec := "evalVars", inPlace := ["slices.overlaps[chancel/api.Value]"], unfollowed := true, recurses := true, plainKeys := false, apart := false }
def EvalVarsSaid : Prop := evalVarsRow.holds Try.pinned (OpenSpec.ofChange evalVarsSpec)

/-- ITS FALSE NEIGHBOUR: 'it returns false'. Refute it at one input. -/
def evalVarsWrong : ChangeSpec := { name := "evalVars", fn := fun _ => fun
  | [d1, d2] => { results := [.lit (.bool false)], args := [d1, d2] }
  | _ => none }
def EvalVarsWrongFalsely : Prop := evalVarsRow.holds Try.pinned (OpenSpec.ofChange evalVarsWrong)

/-- 'chancellaw14.DecideCounts': WHATEVER THE INPUT: true; the input reads as it did. -/
def decideCountsSpec : ChangeSpec := { name := "decideCounts", fn := fun _ => fun
  | [d] => { results := [.lit (.bool true)], args := [d] }
  | _ => none }
def decideCountsRow : OpenClaim := { program := "ytfjjeijkbhcoaaa", sum := "e10e45c2fcf13f07fe6b322cec8e0df8c4bd20de2a7a2d9eef4e7f3952a343ba", func := "chancel/chancellaw14.DecideCounts", spec := "decideCounts", inPlace := ["slices.overlaps[chancel/api.Value]"], unfollowed := true, recurses := true, plainKeys := false, apart := false }
def DecideCountsSaid : Prop := decideCountsRow.holds Try.pinned (OpenSpec.ofChange decideCountsSpec)

/-- ITS FALSE NEIGHBOUR: 'it returns false'. Refute it at one input. -/
def decideCountsWrong : ChangeSpec := { name := "decideCounts", fn := fun _ => fun
  | [d] => { results := [.lit (.bool false)], args := [d] }
  | _ => none }
def DecideCountsWrongFalsely : Prop := decideCountsRow.holds Try.pinned (OpenSpec.ofChange decideCountsWrong)

/-- 'chancellaw3.ValueSets': WHATEVER THE INPUT: true; the input reads as it did. -/
def valueSetsSpec : ChangeSpec := { name := "valueSets", fn := fun _ => fun
  | [d1, d2, d3] => { results := [.lit (.bool true)], args := [d1, d2, d3] }
  | _ => none }
def valueSetsRow : OpenClaim := { program := "ytfjjeijkbhcoaaa", sum := "e10e45c2fcf13f07fe6b322cec8e0df8c4bd20de2a7a2d9eef4e7f3952a343ba", func := "chancel/chancellaw3.ValueSets", spec := "valueSets", inPlace := ["slices.overlaps[chancel/api.Value]"], unfollowed := true, recurses := true, loops := true, plainKeys := false, apart := false }
def ValueSetsSaid : Prop := valueSetsRow.holds Try.pinned (OpenSpec.ofChange valueSetsSpec)

/-- ITS FALSE NEIGHBOUR: 'it returns false'. Refute it at one input. -/
def valueSetsWrong : ChangeSpec := { name := "valueSets", fn := fun _ => fun
  | [d1, d2, d3] => { results := [.lit (.bool false)], args := [d1, d2, d3] }
  | _ => none }
def ValueSetsWrongFalsely : Prop := valueSetsRow.holds Try.pinned (OpenSpec.ofChange valueSetsWrong)

/-- 'chancellaw3.ValueLong': WHATEVER THE INPUT: true; the input reads as it did. -/
def valueLongSpec : ChangeSpec := { name := "valueLong", fn := fun _ => fun
  | [d1, d2, d3] => { results := [.lit (.bool true)], args := [d1, d2, d3] }
  | _ => none }
def valueLongRow : OpenClaim := { program := "ytfjjeijkbhcoaaa", sum := "e10e45c2fcf13f07fe6b322cec8e0df8c4bd20de2a7a2d9eef4e7f3952a343ba", func := "chancel/chancellaw3.ValueLong", spec := "valueLong", inPlace := ["slices.overlaps[chancel/api.Value]"], unfollowed := true, recurses := true, plainKeys := false, apart := false }
def ValueLongSaid : Prop := valueLongRow.holds Try.pinned (OpenSpec.ofChange valueLongSpec)

/-- ITS FALSE NEIGHBOUR: 'it returns false'. Refute it at one input. -/
def valueLongWrong : ChangeSpec := { name := "valueLong", fn := fun _ => fun
  | [d1, d2, d3] => { results := [.lit (.bool false)], args := [d1, d2, d3] }
  | _ => none }
def ValueLongWrongFalsely : Prop := valueLongRow.holds Try.pinned (OpenSpec.ofChange valueLongWrong)

/- THE SECOND FORM. 'bulk': how many values and letters a reading holds, each counted each time it is reached (what is shared counts as often as it is met; a slice's spare places count too). A statement '..UptoSaid' is the law's where the arguments, and the package variables that the reading takes, are together of bulk at most 1048576: NARROWER than '..Said'. Prove '..Said' where nothing that the law and all that it calls make is longer than what came in: it says more and counts as full. Else prove '..UptoSaid'. A law counts once. -/
mutual
def uptoBulk {H : Type} : DataW H → Nat
  | .lit (.string bytes) => bytes.length + 1
  | .lit _ => 1
  | .nil => 1
  | .ptr d => uptoBulk d + 1
  | .slice elems spare => uptoBulkAll elems + uptoBulkAll spare + 1
  | .agg parts => uptoBulkAll parts + 1
  | .iface _ d => uptoBulk d + 1
  | .map entries => uptoBulkEntries entries + 1
  | .held _ => 1
def uptoBulkAll {H : Type} : List (DataW H) → Nat
  | [] => 0
  | d :: r => uptoBulk d + uptoBulkAll r
def uptoBulkEntries {H : Type} : List (Lit × DataW H) → Nat
  | [] => 0
  | x :: r => uptoBulkEntry x + uptoBulkEntries r
def uptoBulkEntry {H : Type} : Lit × DataW H → Nat
  | (.string bytes, d) => bytes.length + uptoBulk d + 1
  | (_, d) => uptoBulk d + 1
 end
def uptoSmall : (H : Type) → List (DataW H) → Bool := fun _ ds => decide (uptoBulkAll ds ≤ 1048576)
def OpenSpec.upto (s : _root_.Go.ChangeSpec) : _root_.Go.OpenSpec := { _root_.Go.OpenSpec.ofChange s with cond := some uptoSmall }

/-- 'chancellaw8.EntsBounds', WHERE WHAT IT READS IS OF BULK AT MOST 1048576: true; the input reads as it did. -/
def entsBoundsUptoRow : OpenClaim := { program := "ytfjjeijkbhcoaaa", sum := "e10e45c2fcf13f07fe6b322cec8e0df8c4bd20de2a7a2d9eef4e7f3952a343ba", func := "chancel/chancellaw8.EntsBounds", spec := "entsBounds", inPlace := ["slices.overlaps[chancel/api.Entity]"], unfollowed := true, recurses := true, plainKeys := false, apart := false, narrowed := true }
def EntsBoundsUptoSaid : Prop := entsBoundsUptoRow.holds Try.pinned (OpenSpec.upto entsBoundsSpec)

/-- 'chancellaw9.AboveBelow', WHERE WHAT IT READS IS OF BULK AT MOST 1048576: true; the input reads as it did. -/
def aboveBelowUptoRow : OpenClaim := { program := "ytfjjeijkbhcoaaa", sum := "e10e45c2fcf13f07fe6b322cec8e0df8c4bd20de2a7a2d9eef4e7f3952a343ba", func := "chancel/chancellaw9.AboveBelow", spec := "aboveBelow", unfollowed := true, recurses := true, loops := true, plainKeys := false, apart := false, narrowed := true }
def AboveBelowUptoSaid : Prop := aboveBelowUptoRow.holds Try.pinned (OpenSpec.upto aboveBelowSpec)

/-- 'chancellaw8.EntsOrder', WHERE WHAT IT READS IS OF BULK AT MOST 1048576: true; the input reads as it did. -/
def entsOrderUptoRow : OpenClaim := { program := "ytfjjeijkbhcoaaa", sum := "e10e45c2fcf13f07fe6b322cec8e0df8c4bd20de2a7a2d9eef4e7f3952a343ba", func := "chancel/chancellaw8.EntsOrder", spec := "entsOrder", inPlace := ["slices.overlaps[chancel/api.Entity]"], unfollowed := true, recurses := true, loops := true, plainKeys := false, apart := false, narrowed := true }
def EntsOrderUptoSaid : Prop := entsOrderUptoRow.holds Try.pinned (OpenSpec.upto entsOrderSpec)

/-- 'chancellaw8.EntsPlay', WHERE WHAT IT READS IS OF BULK AT MOST 1048576: true; the input reads as it did. -/
def entsPlayUptoRow : OpenClaim := { program := "ytfjjeijkbhcoaaa", sum := "e10e45c2fcf13f07fe6b322cec8e0df8c4bd20de2a7a2d9eef4e7f3952a343ba", func := "chancel/chancellaw8.EntsPlay", spec := "entsPlay", inPlace := ["slices.overlaps[chancel/api.Entity]"], unfollowed := true, recurses := true, loops := true, plainKeys := false, apart := false, narrowed := true }
def EntsPlayUptoSaid : Prop := entsPlayUptoRow.holds Try.pinned (OpenSpec.upto entsPlaySpec)

/-- 'chancellaw3.ValueOrder', WHERE WHAT IT READS IS OF BULK AT MOST 1048576: true; the input reads as it did. -/
def valueOrderUptoRow : OpenClaim := { program := "ytfjjeijkbhcoaaa", sum := "e10e45c2fcf13f07fe6b322cec8e0df8c4bd20de2a7a2d9eef4e7f3952a343ba", func := "chancel/chancellaw3.ValueOrder", spec := "valueOrder", inPlace := ["slices.overlaps[chancel/api.Value]"], unfollowed := true, recurses := true, loops := true, plainKeys := false, apart := false, narrowed := true }
def ValueOrderUptoSaid : Prop := valueOrderUptoRow.holds Try.pinned (OpenSpec.upto valueOrderSpec)

/-- 'chancellaw3.ValueTexts', WHERE WHAT IT READS IS OF BULK AT MOST 1048576: true; the input reads as it did. -/
def valueTextsUptoRow : OpenClaim := { program := "ytfjjeijkbhcoaaa", sum := "e10e45c2fcf13f07fe6b322cec8e0df8c4bd20de2a7a2d9eef4e7f3952a343ba", func := "chancel/chancellaw3.ValueTexts", spec := "valueTexts", inPlace := ["slices.overlaps[chancel/api.Value]"], unfollowed := true, recurses := true, loops := true, plainKeys := false, apart := false, narrowed := true }
def ValueTextsUptoSaid : Prop := valueTextsUptoRow.holds Try.pinned (OpenSpec.upto valueTextsSpec)

/-- 'chancellaw3.ValueMixed', WHERE WHAT IT READS IS OF BULK AT MOST 1048576: true; the input reads as it did. -/
def valueMixedUptoRow : OpenClaim := { program := "ytfjjeijkbhcoaaa", sum := "e10e45c2fcf13f07fe6b322cec8e0df8c4bd20de2a7a2d9eef4e7f3952a343ba", func := "chancel/chancellaw3.ValueMixed", spec := "valueMixed", inPlace := ["slices.overlaps[chancel/api.Value]"], unfollowed := true, recurses := true, loops := true, plainKeys := false, apart := false, narrowed := true }
def ValueMixedUptoSaid : Prop := valueMixedUptoRow.holds Try.pinned (OpenSpec.upto valueMixedSpec)

/-- 'chancellaw9.AboveCircles', WHERE WHAT IT READS IS OF BULK AT MOST 1048576: true; the input reads as it did. -/
def aboveCirclesUptoRow : OpenClaim := { program := "ytfjjeijkbhcoaaa", sum := "e10e45c2fcf13f07fe6b322cec8e0df8c4bd20de2a7a2d9eef4e7f3952a343ba", func := "chancel/chancellaw9.AboveCircles", spec := "aboveCircles", inPlace := ["slices.overlaps[chancel/api.Entity]"], unfollowed := true, recurses := true, loops := true, plainKeys := false, apart := false, narrowed := true }
def AboveCirclesUptoSaid : Prop := aboveCirclesUptoRow.holds Try.pinned (OpenSpec.upto aboveCirclesSpec)

/-- 'chancellaw3.ValueAsks', WHERE WHAT IT READS IS OF BULK AT MOST 1048576: true; the input reads as it did. -/
def valueAsksUptoRow : OpenClaim := { program := "ytfjjeijkbhcoaaa", sum := "e10e45c2fcf13f07fe6b322cec8e0df8c4bd20de2a7a2d9eef4e7f3952a343ba", func := "chancel/chancellaw3.ValueAsks", spec := "valueAsks", inPlace := ["slices.overlaps[chancel/api.Value]"], unfollowed := true, recurses := true, loops := true, plainKeys := false, apart := false, narrowed := true }
def ValueAsksUptoSaid : Prop := valueAsksUptoRow.holds Try.pinned (OpenSpec.upto valueAsksSpec)

/-- 'chancellaw9.AboveAsks', WHERE WHAT IT READS IS OF BULK AT MOST 1048576: true; the input reads as it did. -/
def aboveAsksUptoRow : OpenClaim := { program := "ytfjjeijkbhcoaaa", sum := "e10e45c2fcf13f07fe6b322cec8e0df8c4bd20de2a7a2d9eef4e7f3952a343ba", func := "chancel/chancellaw9.AboveAsks", spec := "aboveAsks", inPlace := ["slices.overlaps[chancel/api.Entity]"], unfollowed := true, recurses := true, loops := true, plainKeys := false, apart := false, narrowed := true }
def AboveAsksUptoSaid : Prop := aboveAsksUptoRow.holds Try.pinned (OpenSpec.upto aboveAsksSpec)

/-- 'chancellaw9.AboveChain', WHERE WHAT IT READS IS OF BULK AT MOST 1048576: true; the input reads as it did. -/
def aboveChainUptoRow : OpenClaim := { program := "ytfjjeijkbhcoaaa", sum := "e10e45c2fcf13f07fe6b322cec8e0df8c4bd20de2a7a2d9eef4e7f3952a343ba", func := "chancel/chancellaw9.AboveChain", spec := "aboveChain", inPlace := ["slices.overlaps[chancel/api.Entity]"], unfollowed := true, recurses := true, plainKeys := false, apart := false, narrowed := true }
def AboveChainUptoSaid : Prop := aboveChainUptoRow.holds Try.pinned (OpenSpec.upto aboveChainSpec)

/-- 'chancellaw13.EvalSums', WHERE WHAT IT READS IS OF BULK AT MOST 1048576: true; the input reads as it did. -/
def evalSumsUptoRow : OpenClaim := { program := "ytfjjeijkbhcoaaa", sum := "e10e45c2fcf13f07fe6b322cec8e0df8c4bd20de2a7a2d9eef4e7f3952a343ba", func := "chancel/chancellaw13.EvalSums", spec := "evalSums", inPlace := ["slices.overlaps[chancel/api.Value]"], unfollowed := true, recurses := true, plainKeys := false, apart := false, narrowed := true }
def EvalSumsUptoSaid : Prop := evalSumsUptoRow.holds Try.pinned (OpenSpec.upto evalSumsSpec)

/-- 'chancellaw13.EvalHas', WHERE WHAT IT READS IS OF BULK AT MOST 1048576: true; the input reads as it did. -/
def evalHasUptoRow : OpenClaim := { program := "ytfjjeijkbhcoaaa", sum := "e10e45c2fcf13f07fe6b322cec8e0df8c4bd20de2a7a2d9eef4e7f3952a343ba", func := "chancel/chancellaw13.EvalHas", spec := "evalHas", inPlace := ["slices.overlaps[chancel/api.Value]"], unfollowed := true, recurses := true, loops := true, plainKeys := false, apart := false, narrowed := true }
def EvalHasUptoSaid : Prop := evalHasUptoRow.holds Try.pinned (OpenSpec.upto evalHasSpec)

/-- 'chancellaw13.EvalSames', WHERE WHAT IT READS IS OF BULK AT MOST 1048576: true; the input reads as it did. -/
def evalSamesUptoRow : OpenClaim := { program := "ytfjjeijkbhcoaaa", sum := "e10e45c2fcf13f07fe6b322cec8e0df8c4bd20de2a7a2d9eef4e7f3952a343ba", func := "chancel/chancellaw13.EvalSames", spec := "evalSames", inPlace := ["slices.overlaps[chancel/api.Value]"], unfollowed := true, recurses := true, loops := true, plainKeys := false, apart := false, narrowed := true }
def EvalSamesUptoSaid : Prop := evalSamesUptoRow.holds Try.pinned (OpenSpec.upto evalSamesSpec)

/-- 'chancellaw13.EvalVars', WHERE WHAT IT READS IS OF BULK AT MOST 1048576: true; the input reads as it did. -/
def evalVarsUptoRow : OpenClaim := { program := "ytfjjeijkbhcoaaa", sum := "e10e45c2fcf13f07fe6b322cec8e0df8c4bd20de2a7a2d9eef4e7f3952a343ba", func := "chancel/chancellaw13.EvalVars", spec := "evalVars", inPlace := ["slices.overlaps[chancel/api.Value]"], unfollowed := true, recurses := true, plainKeys := false, apart := false, narrowed := true }
def EvalVarsUptoSaid : Prop := evalVarsUptoRow.holds Try.pinned (OpenSpec.upto evalVarsSpec)

/-- 'chancellaw14.DecideCounts', WHERE WHAT IT READS IS OF BULK AT MOST 1048576: true; the input reads as it did. -/
def decideCountsUptoRow : OpenClaim := { program := "ytfjjeijkbhcoaaa", sum := "e10e45c2fcf13f07fe6b322cec8e0df8c4bd20de2a7a2d9eef4e7f3952a343ba", func := "chancel/chancellaw14.DecideCounts", spec := "decideCounts", inPlace := ["slices.overlaps[chancel/api.Value]"], unfollowed := true, recurses := true, plainKeys := false, apart := false, narrowed := true }
def DecideCountsUptoSaid : Prop := decideCountsUptoRow.holds Try.pinned (OpenSpec.upto decideCountsSpec)

/-- 'chancellaw3.ValueSets', WHERE WHAT IT READS IS OF BULK AT MOST 1048576: true; the input reads as it did. -/
def valueSetsUptoRow : OpenClaim := { program := "ytfjjeijkbhcoaaa", sum := "e10e45c2fcf13f07fe6b322cec8e0df8c4bd20de2a7a2d9eef4e7f3952a343ba", func := "chancel/chancellaw3.ValueSets", spec := "valueSets", inPlace := ["slices.overlaps[chancel/api.Value]"], unfollowed := true, recurses := true, loops := true, plainKeys := false, apart := false, narrowed := true }
def ValueSetsUptoSaid : Prop := valueSetsUptoRow.holds Try.pinned (OpenSpec.upto valueSetsSpec)

/-- 'chancellaw3.ValueLong', WHERE WHAT IT READS IS OF BULK AT MOST 1048576: true; the input reads as it did. -/
def valueLongUptoRow : OpenClaim := { program := "ytfjjeijkbhcoaaa", sum := "e10e45c2fcf13f07fe6b322cec8e0df8c4bd20de2a7a2d9eef4e7f3952a343ba", func := "chancel/chancellaw3.ValueLong", spec := "valueLong", inPlace := ["slices.overlaps[chancel/api.Value]"], unfollowed := true, recurses := true, plainKeys := false, apart := false, narrowed := true }
def ValueLongUptoSaid : Prop := valueLongUptoRow.holds Try.pinned (OpenSpec.upto valueLongSpec)

end Rows
end Go.Proofs.Ytfjjeijkbhcoaaa
