/-
  No cell of these rows narrows 'for every input' (looked for: loops, veiled, ifaces, maps, wideKeys, modest, calm, conditions, laid).
  DERIVED. THE GIVEN ROWS OF THIS SEAT. 25 by the template 'for every input the law returns true; each argument reads behind the call as it read before'; 0 by the template 'total and deterministic' (their statements: YtlmeponoadhheaaTotals.lean).
  GIVEN WITH THE SEED: the statements are not yours to turn. If you find one false, say at which input.
  Laid BY PROGRAM, IN A SANDBOX (cutbox-rows.mjs): the forced cells as the released guide's own fill.sh prints them over the translation 206391fe4e3457ec… (all of the seat's roots in one cut). By AI agents, Wed Nov 11 2026. No macro, syntax, notation, axiom, sorry.
-/
import Derived.Test.YtlmeponoadhheaaChecked
import GoSem.Claim
import GoSem.ClaimJoined
import GoSem.ClaimMapViews
import Derived.JoinedTies
import Derived.KernelRfl
namespace Go.Proofs.Ytlmeponoadhheaa
/- THE CELL 'sum', in the pinned program and in every row, IS THE sha256 OF THE DUMP (.gsa) THAT YtlmeponoadhheaaProg.lean LOADS. Nothing in Lean hashes anything: it is a label: what it is worth is what the hold of that sum in a sandbox is worth. -/
noncomputable def Try.pinned : Pinned := { name := "ytlmeponoadhheaa", sum := "206391fe4e3457ecb3d594722add05850a6f5dbf43d2d55dfd3d8df95c2c871a", checked := Try.checked }
namespace Rows
def none {H : Type} : Left H := { results := [], args := [] }

/-- 'gleaninglaw09.GraphAdds': WHATEVER THE INPUT: true; the input reads as it did. -/
def graphAddsSpec : ChangeSpec := { name := "graphAdds", fn := fun _ => fun
  | [d1, d2] => { results := [.lit (.bool true)], args := [d1, d2] }
  | _ => none }
def graphAddsRow : OpenClaim := { program := "ytlmeponoadhheaa", sum := "206391fe4e3457ecb3d594722add05850a6f5dbf43d2d55dfd3d8df95c2c871a", func := "gleaning/gleaninglaw09.GraphAdds", spec := "graphAdds", unfollowed := true, recurses := true, apart := false }
def GraphAddsSaid : Prop := graphAddsRow.holds Try.pinned (OpenSpec.ofChange graphAddsSpec)

/-- ITS FALSE NEIGHBOUR: 'it returns false'. Refute it at one input. -/
def graphAddsWrong : ChangeSpec := { name := "graphAdds", fn := fun _ => fun
  | [d1, d2] => { results := [.lit (.bool false)], args := [d1, d2] }
  | _ => none }
def GraphAddsWrongFalsely : Prop := graphAddsRow.holds Try.pinned (OpenSpec.ofChange graphAddsWrong)

/-- 'gleaninglaw09.GraphOwn': WHATEVER THE INPUT: true; the input reads as it did. -/
def graphOwnSpec : ChangeSpec := { name := "graphOwn", fn := fun _ => fun
  | [d1, d2, d3] => { results := [.lit (.bool true)], args := [d1, d2, d3] }
  | _ => none }
def graphOwnRow : OpenClaim := { program := "ytlmeponoadhheaa", sum := "206391fe4e3457ecb3d594722add05850a6f5dbf43d2d55dfd3d8df95c2c871a", func := "gleaning/gleaninglaw09.GraphOwn", spec := "graphOwn", unfollowed := true, recurses := true, apart := false }
def GraphOwnSaid : Prop := graphOwnRow.holds Try.pinned (OpenSpec.ofChange graphOwnSpec)

/-- ITS FALSE NEIGHBOUR: 'it returns false'. Refute it at one input. -/
def graphOwnWrong : ChangeSpec := { name := "graphOwn", fn := fun _ => fun
  | [d1, d2, d3] => { results := [.lit (.bool false)], args := [d1, d2, d3] }
  | _ => none }
def GraphOwnWrongFalsely : Prop := graphOwnRow.holds Try.pinned (OpenSpec.ofChange graphOwnWrong)

/-- 'gleaninglaw09.GraphSets': WHATEVER THE INPUT: true; the input reads as it did. -/
def graphSetsSpec : ChangeSpec := { name := "graphSets", fn := fun _ => fun
  | [d1, d2, d3] => { results := [.lit (.bool true)], args := [d1, d2, d3] }
  | _ => none }
def graphSetsRow : OpenClaim := { program := "ytlmeponoadhheaa", sum := "206391fe4e3457ecb3d594722add05850a6f5dbf43d2d55dfd3d8df95c2c871a", func := "gleaning/gleaninglaw09.GraphSets", spec := "graphSets", unfollowed := true, recurses := true, apart := false }
def GraphSetsSaid : Prop := graphSetsRow.holds Try.pinned (OpenSpec.ofChange graphSetsSpec)

/-- ITS FALSE NEIGHBOUR: 'it returns false'. Refute it at one input. -/
def graphSetsWrong : ChangeSpec := { name := "graphSets", fn := fun _ => fun
  | [d1, d2, d3] => { results := [.lit (.bool false)], args := [d1, d2, d3] }
  | _ => none }
def GraphSetsWrongFalsely : Prop := graphSetsRow.holds Try.pinned (OpenSpec.ofChange graphSetsWrong)

/-- 'gleaninglaw09.GraphPlays': WHATEVER THE INPUT: true; the input reads as it did. -/
def graphPlaysSpec : ChangeSpec := { name := "graphPlays", fn := fun _ => fun
  | [d1, d2] => { results := [.lit (.bool true)], args := [d1, d2] }
  | _ => none }
def graphPlaysRow : OpenClaim := { program := "ytlmeponoadhheaa", sum := "206391fe4e3457ecb3d594722add05850a6f5dbf43d2d55dfd3d8df95c2c871a", func := "gleaning/gleaninglaw09.GraphPlays", spec := "graphPlays", unfollowed := true, recurses := true, apart := false }
def GraphPlaysSaid : Prop := graphPlaysRow.holds Try.pinned (OpenSpec.ofChange graphPlaysSpec)

/-- ITS FALSE NEIGHBOUR: 'it returns false'. Refute it at one input. -/
def graphPlaysWrong : ChangeSpec := { name := "graphPlays", fn := fun _ => fun
  | [d1, d2] => { results := [.lit (.bool false)], args := [d1, d2] }
  | _ => none }
def GraphPlaysWrongFalsely : Prop := graphPlaysRow.holds Try.pinned (OpenSpec.ofChange graphPlaysWrong)

/-- 'gleaninglaw09.GraphKeeps': WHATEVER THE INPUT: true; the input reads as it did. -/
def graphKeepsSpec : ChangeSpec := { name := "graphKeeps", fn := fun _ => fun
  | [d1, d2, d3] => { results := [.lit (.bool true)], args := [d1, d2, d3] }
  | _ => none }
def graphKeepsRow : OpenClaim := { program := "ytlmeponoadhheaa", sum := "206391fe4e3457ecb3d594722add05850a6f5dbf43d2d55dfd3d8df95c2c871a", func := "gleaning/gleaninglaw09.GraphKeeps", spec := "graphKeeps", unfollowed := true, recurses := true, apart := false }
def GraphKeepsSaid : Prop := graphKeepsRow.holds Try.pinned (OpenSpec.ofChange graphKeepsSpec)

/-- ITS FALSE NEIGHBOUR: 'it returns false'. Refute it at one input. -/
def graphKeepsWrong : ChangeSpec := { name := "graphKeeps", fn := fun _ => fun
  | [d1, d2, d3] => { results := [.lit (.bool false)], args := [d1, d2, d3] }
  | _ => none }
def GraphKeepsWrongFalsely : Prop := graphKeepsRow.holds Try.pinned (OpenSpec.ofChange graphKeepsWrong)

/-- 'gleaninglaw09.GraphNil': WHATEVER THE INPUT: true; the input reads as it did. -/
def graphNilSpec : ChangeSpec := { name := "graphNil", fn := fun _ => fun
  | [d] => { results := [.lit (.bool true)], args := [d] }
  | _ => none }
def graphNilRow : OpenClaim := { program := "ytlmeponoadhheaa", sum := "206391fe4e3457ecb3d594722add05850a6f5dbf43d2d55dfd3d8df95c2c871a", func := "gleaning/gleaninglaw09.GraphNil", spec := "graphNil", unfollowed := true, recurses := true, apart := false }
def GraphNilSaid : Prop := graphNilRow.holds Try.pinned (OpenSpec.ofChange graphNilSpec)

/-- ITS FALSE NEIGHBOUR: 'it returns false'. Refute it at one input. -/
def graphNilWrong : ChangeSpec := { name := "graphNil", fn := fun _ => fun
  | [d] => { results := [.lit (.bool false)], args := [d] }
  | _ => none }
def GraphNilWrongFalsely : Prop := graphNilRow.holds Try.pinned (OpenSpec.ofChange graphNilWrong)

/-- 'gleaninglaw10.StrengthTells': WHATEVER THE INPUT: true; the input reads as it did. -/
def strengthTellsSpec : ChangeSpec := { name := "strengthTells", fn := fun _ => fun
  | [d1, d2, d3] => { results := [.lit (.bool true)], args := [d1, d2, d3] }
  | _ => none }
def strengthTellsRow : OpenClaim := { program := "ytlmeponoadhheaa", sum := "206391fe4e3457ecb3d594722add05850a6f5dbf43d2d55dfd3d8df95c2c871a", func := "gleaning/gleaninglaw10.StrengthTells", spec := "strengthTells", unfollowed := true, recurses := true, apart := false }
def StrengthTellsSaid : Prop := strengthTellsRow.holds Try.pinned (OpenSpec.ofChange strengthTellsSpec)

/-- ITS FALSE NEIGHBOUR: 'it returns false'. Refute it at one input. -/
def strengthTellsWrong : ChangeSpec := { name := "strengthTells", fn := fun _ => fun
  | [d1, d2, d3] => { results := [.lit (.bool false)], args := [d1, d2, d3] }
  | _ => none }
def StrengthTellsWrongFalsely : Prop := strengthTellsRow.holds Try.pinned (OpenSpec.ofChange strengthTellsWrong)

/-- 'gleaninglaw10.StrengthGrows': WHATEVER THE INPUT: true; the input reads as it did. -/
def strengthGrowsSpec : ChangeSpec := { name := "strengthGrows", fn := fun _ => fun
  | [d1, d2, d3] => { results := [.lit (.bool true)], args := [d1, d2, d3] }
  | _ => none }
def strengthGrowsRow : OpenClaim := { program := "ytlmeponoadhheaa", sum := "206391fe4e3457ecb3d594722add05850a6f5dbf43d2d55dfd3d8df95c2c871a", func := "gleaning/gleaninglaw10.StrengthGrows", spec := "strengthGrows", unfollowed := true, recurses := true, apart := false }
def StrengthGrowsSaid : Prop := strengthGrowsRow.holds Try.pinned (OpenSpec.ofChange strengthGrowsSpec)

/-- ITS FALSE NEIGHBOUR: 'it returns false'. Refute it at one input. -/
def strengthGrowsWrong : ChangeSpec := { name := "strengthGrows", fn := fun _ => fun
  | [d1, d2, d3] => { results := [.lit (.bool false)], args := [d1, d2, d3] }
  | _ => none }
def StrengthGrowsWrongFalsely : Prop := strengthGrowsRow.holds Try.pinned (OpenSpec.ofChange strengthGrowsWrong)

/-- 'gleaninglaw10.StrengthAims': WHATEVER THE INPUT: true; the input reads as it did. -/
def strengthAimsSpec : ChangeSpec := { name := "strengthAims", fn := fun _ => fun
  | [d1, d2] => { results := [.lit (.bool true)], args := [d1, d2] }
  | _ => none }
def strengthAimsRow : OpenClaim := { program := "ytlmeponoadhheaa", sum := "206391fe4e3457ecb3d594722add05850a6f5dbf43d2d55dfd3d8df95c2c871a", func := "gleaning/gleaninglaw10.StrengthAims", spec := "strengthAims", unfollowed := true, recurses := true, apart := false }
def StrengthAimsSaid : Prop := strengthAimsRow.holds Try.pinned (OpenSpec.ofChange strengthAimsSpec)

/-- ITS FALSE NEIGHBOUR: 'it returns false'. Refute it at one input. -/
def strengthAimsWrong : ChangeSpec := { name := "strengthAims", fn := fun _ => fun
  | [d1, d2] => { results := [.lit (.bool false)], args := [d1, d2] }
  | _ => none }
def StrengthAimsWrongFalsely : Prop := strengthAimsRow.holds Try.pinned (OpenSpec.ofChange strengthAimsWrong)

/-- 'gleaninglaw10.StrengthRoots': WHATEVER THE INPUT: true; the input reads as it did. -/
def strengthRootsSpec : ChangeSpec := { name := "strengthRoots", fn := fun _ => fun
  | [d1, d2, d3] => { results := [.lit (.bool true)], args := [d1, d2, d3] }
  | _ => none }
def strengthRootsRow : OpenClaim := { program := "ytlmeponoadhheaa", sum := "206391fe4e3457ecb3d594722add05850a6f5dbf43d2d55dfd3d8df95c2c871a", func := "gleaning/gleaninglaw10.StrengthRoots", spec := "strengthRoots", unfollowed := true, recurses := true, apart := false }
def StrengthRootsSaid : Prop := strengthRootsRow.holds Try.pinned (OpenSpec.ofChange strengthRootsSpec)

/-- ITS FALSE NEIGHBOUR: 'it returns false'. Refute it at one input. -/
def strengthRootsWrong : ChangeSpec := { name := "strengthRoots", fn := fun _ => fun
  | [d1, d2, d3] => { results := [.lit (.bool false)], args := [d1, d2, d3] }
  | _ => none }
def StrengthRootsWrongFalsely : Prop := strengthRootsRow.holds Try.pinned (OpenSpec.ofChange strengthRootsWrong)

/-- 'gleaninglaw10.StrengthCloses': WHATEVER THE INPUT: true; the input reads as it did. -/
def strengthClosesSpec : ChangeSpec := { name := "strengthCloses", fn := fun _ => fun
  | [d1, d2, d3] => { results := [.lit (.bool true)], args := [d1, d2, d3] }
  | _ => none }
def strengthClosesRow : OpenClaim := { program := "ytlmeponoadhheaa", sum := "206391fe4e3457ecb3d594722add05850a6f5dbf43d2d55dfd3d8df95c2c871a", func := "gleaning/gleaninglaw10.StrengthCloses", spec := "strengthCloses", unfollowed := true, recurses := true, apart := false }
def StrengthClosesSaid : Prop := strengthClosesRow.holds Try.pinned (OpenSpec.ofChange strengthClosesSpec)

/-- ITS FALSE NEIGHBOUR: 'it returns false'. Refute it at one input. -/
def strengthClosesWrong : ChangeSpec := { name := "strengthCloses", fn := fun _ => fun
  | [d1, d2, d3] => { results := [.lit (.bool false)], args := [d1, d2, d3] }
  | _ => none }
def StrengthClosesWrongFalsely : Prop := strengthClosesRow.holds Try.pinned (OpenSpec.ofChange strengthClosesWrong)

/-- 'gleaninglaw10.StrengthApart': WHATEVER THE INPUT: true; the input reads as it did. -/
def strengthApartSpec : ChangeSpec := { name := "strengthApart", fn := fun _ => fun
  | [d1, d2] => { results := [.lit (.bool true)], args := [d1, d2] }
  | _ => none }
def strengthApartRow : OpenClaim := { program := "ytlmeponoadhheaa", sum := "206391fe4e3457ecb3d594722add05850a6f5dbf43d2d55dfd3d8df95c2c871a", func := "gleaning/gleaninglaw10.StrengthApart", spec := "strengthApart", unfollowed := true, recurses := true, apart := false }
def StrengthApartSaid : Prop := strengthApartRow.holds Try.pinned (OpenSpec.ofChange strengthApartSpec)

/-- ITS FALSE NEIGHBOUR: 'it returns false'. Refute it at one input. -/
def strengthApartWrong : ChangeSpec := { name := "strengthApart", fn := fun _ => fun
  | [d1, d2] => { results := [.lit (.bool false)], args := [d1, d2] }
  | _ => none }
def StrengthApartWrongFalsely : Prop := strengthApartRow.holds Try.pinned (OpenSpec.ofChange strengthApartWrong)

/-- 'gleaninglaw13.ProcessPlain': WHATEVER THE INPUT: true; the input reads as it did. -/
def processPlainSpec : ChangeSpec := { name := "processPlain", fn := fun _ => fun
  | [d1, d2, d3] => { results := [.lit (.bool true)], args := [d1, d2, d3] }
  | _ => none }
def processPlainRow : OpenClaim := { program := "ytlmeponoadhheaa", sum := "206391fe4e3457ecb3d594722add05850a6f5dbf43d2d55dfd3d8df95c2c871a", func := "gleaning/gleaninglaw13.ProcessPlain", spec := "processPlain", unfollowed := true, recurses := true, apart := false }
def ProcessPlainSaid : Prop := processPlainRow.holds Try.pinned (OpenSpec.ofChange processPlainSpec)

/-- ITS FALSE NEIGHBOUR: 'it returns false'. Refute it at one input. -/
def processPlainWrong : ChangeSpec := { name := "processPlain", fn := fun _ => fun
  | [d1, d2, d3] => { results := [.lit (.bool false)], args := [d1, d2, d3] }
  | _ => none }
def ProcessPlainWrongFalsely : Prop := processPlainRow.holds Try.pinned (OpenSpec.ofChange processPlainWrong)

/-- 'gleaninglaw13.ProcessSoft': WHATEVER THE INPUT: true; the input reads as it did. -/
def processSoftSpec : ChangeSpec := { name := "processSoft", fn := fun _ => fun
  | [d1, d2, d3, d4] => { results := [.lit (.bool true)], args := [d1, d2, d3, d4] }
  | _ => none }
def processSoftRow : OpenClaim := { program := "ytlmeponoadhheaa", sum := "206391fe4e3457ecb3d594722add05850a6f5dbf43d2d55dfd3d8df95c2c871a", func := "gleaning/gleaninglaw13.ProcessSoft", spec := "processSoft", unfollowed := true, recurses := true, apart := false }
def ProcessSoftSaid : Prop := processSoftRow.holds Try.pinned (OpenSpec.ofChange processSoftSpec)

/-- ITS FALSE NEIGHBOUR: 'it returns false'. Refute it at one input. -/
def processSoftWrong : ChangeSpec := { name := "processSoft", fn := fun _ => fun
  | [d1, d2, d3, d4] => { results := [.lit (.bool false)], args := [d1, d2, d3, d4] }
  | _ => none }
def ProcessSoftWrongFalsely : Prop := processSoftRow.holds Try.pinned (OpenSpec.ofChange processSoftWrong)

/-- 'gleaninglaw13.ProcessStrong': WHATEVER THE INPUT: true; the input reads as it did. -/
def processStrongSpec : ChangeSpec := { name := "processStrong", fn := fun _ => fun
  | [d1, d2, d3, d4] => { results := [.lit (.bool true)], args := [d1, d2, d3, d4] }
  | _ => none }
def processStrongRow : OpenClaim := { program := "ytlmeponoadhheaa", sum := "206391fe4e3457ecb3d594722add05850a6f5dbf43d2d55dfd3d8df95c2c871a", func := "gleaning/gleaninglaw13.ProcessStrong", spec := "processStrong", unfollowed := true, recurses := true, apart := false }
def ProcessStrongSaid : Prop := processStrongRow.holds Try.pinned (OpenSpec.ofChange processStrongSpec)

/-- ITS FALSE NEIGHBOUR: 'it returns false'. Refute it at one input. -/
def processStrongWrong : ChangeSpec := { name := "processStrong", fn := fun _ => fun
  | [d1, d2, d3, d4] => { results := [.lit (.bool false)], args := [d1, d2, d3, d4] }
  | _ => none }
def ProcessStrongWrongFalsely : Prop := processStrongRow.holds Try.pinned (OpenSpec.ofChange processStrongWrong)

/-- 'gleaninglaw13.ProcessTells': WHATEVER THE INPUT: true; the input reads as it did. -/
def processTellsSpec : ChangeSpec := { name := "processTells", fn := fun _ => fun
  | [d1, d2, d3] => { results := [.lit (.bool true)], args := [d1, d2, d3] }
  | _ => none }
def processTellsRow : OpenClaim := { program := "ytlmeponoadhheaa", sum := "206391fe4e3457ecb3d594722add05850a6f5dbf43d2d55dfd3d8df95c2c871a", func := "gleaning/gleaninglaw13.ProcessTells", spec := "processTells", unfollowed := true, recurses := true, apart := false }
def ProcessTellsSaid : Prop := processTellsRow.holds Try.pinned (OpenSpec.ofChange processTellsSpec)

/-- ITS FALSE NEIGHBOUR: 'it returns false'. Refute it at one input. -/
def processTellsWrong : ChangeSpec := { name := "processTells", fn := fun _ => fun
  | [d1, d2, d3] => { results := [.lit (.bool false)], args := [d1, d2, d3] }
  | _ => none }
def ProcessTellsWrongFalsely : Prop := processTellsRow.holds Try.pinned (OpenSpec.ofChange processTellsWrong)

/-- 'gleaninglaw13.ProcessCloses': WHATEVER THE INPUT: true; the input reads as it did. -/
def processClosesSpec : ChangeSpec := { name := "processCloses", fn := fun _ => fun
  | [d1, d2, d3] => { results := [.lit (.bool true)], args := [d1, d2, d3] }
  | _ => none }
def processClosesRow : OpenClaim := { program := "ytlmeponoadhheaa", sum := "206391fe4e3457ecb3d594722add05850a6f5dbf43d2d55dfd3d8df95c2c871a", func := "gleaning/gleaninglaw13.ProcessCloses", spec := "processCloses", unfollowed := true, recurses := true, apart := false }
def ProcessClosesSaid : Prop := processClosesRow.holds Try.pinned (OpenSpec.ofChange processClosesSpec)

/-- ITS FALSE NEIGHBOUR: 'it returns false'. Refute it at one input. -/
def processClosesWrong : ChangeSpec := { name := "processCloses", fn := fun _ => fun
  | [d1, d2, d3] => { results := [.lit (.bool false)], args := [d1, d2, d3] }
  | _ => none }
def ProcessClosesWrongFalsely : Prop := processClosesRow.holds Try.pinned (OpenSpec.ofChange processClosesWrong)

/-- 'gleaninglaw13.ProcessAgain': WHATEVER THE INPUT: true; the input reads as it did. -/
def processAgainSpec : ChangeSpec := { name := "processAgain", fn := fun _ => fun
  | [d1, d2, d3] => { results := [.lit (.bool true)], args := [d1, d2, d3] }
  | _ => none }
def processAgainRow : OpenClaim := { program := "ytlmeponoadhheaa", sum := "206391fe4e3457ecb3d594722add05850a6f5dbf43d2d55dfd3d8df95c2c871a", func := "gleaning/gleaninglaw13.ProcessAgain", spec := "processAgain", unfollowed := true, recurses := true, apart := false }
def ProcessAgainSaid : Prop := processAgainRow.holds Try.pinned (OpenSpec.ofChange processAgainSpec)

/-- ITS FALSE NEIGHBOUR: 'it returns false'. Refute it at one input. -/
def processAgainWrong : ChangeSpec := { name := "processAgain", fn := fun _ => fun
  | [d1, d2, d3] => { results := [.lit (.bool false)], args := [d1, d2, d3] }
  | _ => none }
def ProcessAgainWrongFalsely : Prop := processAgainRow.holds Try.pinned (OpenSpec.ofChange processAgainWrong)

/-- 'gleaninglaw13.ProcessFinal': WHATEVER THE INPUT: true; the input reads as it did. -/
def processFinalSpec : ChangeSpec := { name := "processFinal", fn := fun _ => fun
  | [d1, d2] => { results := [.lit (.bool true)], args := [d1, d2] }
  | _ => none }
def processFinalRow : OpenClaim := { program := "ytlmeponoadhheaa", sum := "206391fe4e3457ecb3d594722add05850a6f5dbf43d2d55dfd3d8df95c2c871a", func := "gleaning/gleaninglaw13.ProcessFinal", spec := "processFinal", unfollowed := true, recurses := true, apart := false }
def ProcessFinalSaid : Prop := processFinalRow.holds Try.pinned (OpenSpec.ofChange processFinalSpec)

/-- ITS FALSE NEIGHBOUR: 'it returns false'. Refute it at one input. -/
def processFinalWrong : ChangeSpec := { name := "processFinal", fn := fun _ => fun
  | [d1, d2] => { results := [.lit (.bool false)], args := [d1, d2] }
  | _ => none }
def ProcessFinalWrongFalsely : Prop := processFinalRow.holds Try.pinned (OpenSpec.ofChange processFinalWrong)

/-- 'gleaninglaw19.CensusCounts': WHATEVER THE INPUT: true; the input reads as it did. -/
def censusCountsSpec : ChangeSpec := { name := "censusCounts", fn := fun _ => fun
  | [d1, d2] => { results := [.lit (.bool true)], args := [d1, d2] }
  | _ => none }
def censusCountsRow : OpenClaim := { program := "ytlmeponoadhheaa", sum := "206391fe4e3457ecb3d594722add05850a6f5dbf43d2d55dfd3d8df95c2c871a", func := "gleaning/gleaninglaw19.CensusCounts", spec := "censusCounts", unfollowed := true, recurses := true, apart := false }
def CensusCountsSaid : Prop := censusCountsRow.holds Try.pinned (OpenSpec.ofChange censusCountsSpec)

/-- ITS FALSE NEIGHBOUR: 'it returns false'. Refute it at one input. -/
def censusCountsWrong : ChangeSpec := { name := "censusCounts", fn := fun _ => fun
  | [d1, d2] => { results := [.lit (.bool false)], args := [d1, d2] }
  | _ => none }
def CensusCountsWrongFalsely : Prop := censusCountsRow.holds Try.pinned (OpenSpec.ofChange censusCountsWrong)

/-- 'gleaninglaw19.CensusRows': WHATEVER THE INPUT: true; the input reads as it did. -/
def censusRowsSpec : ChangeSpec := { name := "censusRows", fn := fun _ => fun
  | [d1, d2] => { results := [.lit (.bool true)], args := [d1, d2] }
  | _ => none }
def censusRowsRow : OpenClaim := { program := "ytlmeponoadhheaa", sum := "206391fe4e3457ecb3d594722add05850a6f5dbf43d2d55dfd3d8df95c2c871a", func := "gleaning/gleaninglaw19.CensusRows", spec := "censusRows", unfollowed := true, recurses := true, apart := false }
def CensusRowsSaid : Prop := censusRowsRow.holds Try.pinned (OpenSpec.ofChange censusRowsSpec)

/-- ITS FALSE NEIGHBOUR: 'it returns false'. Refute it at one input. -/
def censusRowsWrong : ChangeSpec := { name := "censusRows", fn := fun _ => fun
  | [d1, d2] => { results := [.lit (.bool false)], args := [d1, d2] }
  | _ => none }
def CensusRowsWrongFalsely : Prop := censusRowsRow.holds Try.pinned (OpenSpec.ofChange censusRowsWrong)

/-- 'gleaninglaw19.CensusDiffs': WHATEVER THE INPUT: true; the input reads as it did. -/
def censusDiffsSpec : ChangeSpec := { name := "censusDiffs", fn := fun _ => fun
  | [d1, d2] => { results := [.lit (.bool true)], args := [d1, d2] }
  | _ => none }
def censusDiffsRow : OpenClaim := { program := "ytlmeponoadhheaa", sum := "206391fe4e3457ecb3d594722add05850a6f5dbf43d2d55dfd3d8df95c2c871a", func := "gleaning/gleaninglaw19.CensusDiffs", spec := "censusDiffs", unfollowed := true, recurses := true, apart := false }
def CensusDiffsSaid : Prop := censusDiffsRow.holds Try.pinned (OpenSpec.ofChange censusDiffsSpec)

/-- ITS FALSE NEIGHBOUR: 'it returns false'. Refute it at one input. -/
def censusDiffsWrong : ChangeSpec := { name := "censusDiffs", fn := fun _ => fun
  | [d1, d2] => { results := [.lit (.bool false)], args := [d1, d2] }
  | _ => none }
def CensusDiffsWrongFalsely : Prop := censusDiffsRow.holds Try.pinned (OpenSpec.ofChange censusDiffsWrong)

/-- 'gleaninglaw19.CensusOrder': WHATEVER THE INPUT: true; the input reads as it did. -/
def censusOrderSpec : ChangeSpec := { name := "censusOrder", fn := fun _ => fun
  | [d1, d2, d3] => { results := [.lit (.bool true)], args := [d1, d2, d3] }
  | _ => none }
def censusOrderRow : OpenClaim := { program := "ytlmeponoadhheaa", sum := "206391fe4e3457ecb3d594722add05850a6f5dbf43d2d55dfd3d8df95c2c871a", func := "gleaning/gleaninglaw19.CensusOrder", spec := "censusOrder", unfollowed := true, recurses := true, apart := false }
def CensusOrderSaid : Prop := censusOrderRow.holds Try.pinned (OpenSpec.ofChange censusOrderSpec)

/-- ITS FALSE NEIGHBOUR: 'it returns false'. Refute it at one input. -/
def censusOrderWrong : ChangeSpec := { name := "censusOrder", fn := fun _ => fun
  | [d1, d2, d3] => { results := [.lit (.bool false)], args := [d1, d2, d3] }
  | _ => none }
def CensusOrderWrongFalsely : Prop := censusOrderRow.holds Try.pinned (OpenSpec.ofChange censusOrderWrong)

/-- 'gleaninglaw19.CensusMore': WHATEVER THE INPUT: true; the input reads as it did. -/
def censusMoreSpec : ChangeSpec := { name := "censusMore", fn := fun _ => fun
  | [d1, d2, d3] => { results := [.lit (.bool true)], args := [d1, d2, d3] }
  | _ => none }
def censusMoreRow : OpenClaim := { program := "ytlmeponoadhheaa", sum := "206391fe4e3457ecb3d594722add05850a6f5dbf43d2d55dfd3d8df95c2c871a", func := "gleaning/gleaninglaw19.CensusMore", spec := "censusMore", unfollowed := true, recurses := true, apart := false }
def CensusMoreSaid : Prop := censusMoreRow.holds Try.pinned (OpenSpec.ofChange censusMoreSpec)

/-- ITS FALSE NEIGHBOUR: 'it returns false'. Refute it at one input. -/
def censusMoreWrong : ChangeSpec := { name := "censusMore", fn := fun _ => fun
  | [d1, d2, d3] => { results := [.lit (.bool false)], args := [d1, d2, d3] }
  | _ => none }
def CensusMoreWrongFalsely : Prop := censusMoreRow.holds Try.pinned (OpenSpec.ofChange censusMoreWrong)

/-- 'gleaninglaw19.CensusSplits': WHATEVER THE INPUT: true; the input reads as it did. -/
def censusSplitsSpec : ChangeSpec := { name := "censusSplits", fn := fun _ => fun
  | [d1, d2, d3] => { results := [.lit (.bool true)], args := [d1, d2, d3] }
  | _ => none }
def censusSplitsRow : OpenClaim := { program := "ytlmeponoadhheaa", sum := "206391fe4e3457ecb3d594722add05850a6f5dbf43d2d55dfd3d8df95c2c871a", func := "gleaning/gleaninglaw19.CensusSplits", spec := "censusSplits", unfollowed := true, recurses := true, apart := false }
def CensusSplitsSaid : Prop := censusSplitsRow.holds Try.pinned (OpenSpec.ofChange censusSplitsSpec)

/-- ITS FALSE NEIGHBOUR: 'it returns false'. Refute it at one input. -/
def censusSplitsWrong : ChangeSpec := { name := "censusSplits", fn := fun _ => fun
  | [d1, d2, d3] => { results := [.lit (.bool false)], args := [d1, d2, d3] }
  | _ => none }
def CensusSplitsWrongFalsely : Prop := censusSplitsRow.holds Try.pinned (OpenSpec.ofChange censusSplitsWrong)

/- THE SECOND FORM. 'bulk': how many values and letters a reading holds, each counted each time it is reached (what is shared counts as often as it is met; a slice's spare places count too). A statement '..UptoSaid' is the law's where the arguments, and the package variables that the reading takes, are together of bulk at most 1048576: NARROWER than '..Said'. Prove '..Said' where nothing that the law and all that it calls make is longer than what came in: it says more and counts as full. Else prove '..UptoSaid'. A law counts once. -/
mutual
def uptoBulk {H : Type} : DataW H → Nat
  | .lit (.string bytes) => bytes.length + 1
  | .lit _ => 1
  | .nil => 1
  | .ptr d => uptoBulk d + 1
  | .slice elems spare => uptoBulkAll elems + uptoBulkAll spare + 1
  | .agg parts => uptoBulkAll parts + 1
  | .iface _ d => uptoBulk d + 1
  | .map entries => uptoBulkEntries entries + 1
  | .held _ => 1
def uptoBulkAll {H : Type} : List (DataW H) → Nat
  | [] => 0
  | d :: r => uptoBulk d + uptoBulkAll r
def uptoBulkEntries {H : Type} : List (Lit × DataW H) → Nat
  | [] => 0
  | x :: r => uptoBulkEntry x + uptoBulkEntries r
def uptoBulkEntry {H : Type} : Lit × DataW H → Nat
  | (.string bytes, d) => bytes.length + uptoBulk d + 1
  | (_, d) => uptoBulk d + 1
 end
def uptoSmall : (H : Type) → List (DataW H) → Bool := fun _ ds => decide (uptoBulkAll ds ≤ 1048576)
def OpenSpec.upto (s : _root_.Go.ChangeSpec) : _root_.Go.OpenSpec := { _root_.Go.OpenSpec.ofChange s with cond := some uptoSmall }

/-- 'gleaninglaw09.GraphAdds', WHERE WHAT IT READS IS OF BULK AT MOST 1048576: true; the input reads as it did. -/
def graphAddsUptoRow : OpenClaim := { program := "ytlmeponoadhheaa", sum := "206391fe4e3457ecb3d594722add05850a6f5dbf43d2d55dfd3d8df95c2c871a", func := "gleaning/gleaninglaw09.GraphAdds", spec := "graphAdds", unfollowed := true, recurses := true, apart := false, narrowed := true }
def GraphAddsUptoSaid : Prop := graphAddsUptoRow.holds Try.pinned (OpenSpec.upto graphAddsSpec)

/-- 'gleaninglaw09.GraphOwn', WHERE WHAT IT READS IS OF BULK AT MOST 1048576: true; the input reads as it did. -/
def graphOwnUptoRow : OpenClaim := { program := "ytlmeponoadhheaa", sum := "206391fe4e3457ecb3d594722add05850a6f5dbf43d2d55dfd3d8df95c2c871a", func := "gleaning/gleaninglaw09.GraphOwn", spec := "graphOwn", unfollowed := true, recurses := true, apart := false, narrowed := true }
def GraphOwnUptoSaid : Prop := graphOwnUptoRow.holds Try.pinned (OpenSpec.upto graphOwnSpec)

/-- 'gleaninglaw09.GraphSets', WHERE WHAT IT READS IS OF BULK AT MOST 1048576: true; the input reads as it did. -/
def graphSetsUptoRow : OpenClaim := { program := "ytlmeponoadhheaa", sum := "206391fe4e3457ecb3d594722add05850a6f5dbf43d2d55dfd3d8df95c2c871a", func := "gleaning/gleaninglaw09.GraphSets", spec := "graphSets", unfollowed := true, recurses := true, apart := false, narrowed := true }
def GraphSetsUptoSaid : Prop := graphSetsUptoRow.holds Try.pinned (OpenSpec.upto graphSetsSpec)

/-- 'gleaninglaw09.GraphPlays', WHERE WHAT IT READS IS OF BULK AT MOST 1048576: true; the input reads as it did. -/
def graphPlaysUptoRow : OpenClaim := { program := "ytlmeponoadhheaa", sum := "206391fe4e3457ecb3d594722add05850a6f5dbf43d2d55dfd3d8df95c2c871a", func := "gleaning/gleaninglaw09.GraphPlays", spec := "graphPlays", unfollowed := true, recurses := true, apart := false, narrowed := true }
def GraphPlaysUptoSaid : Prop := graphPlaysUptoRow.holds Try.pinned (OpenSpec.upto graphPlaysSpec)

/-- 'gleaninglaw09.GraphKeeps', WHERE WHAT IT READS IS OF BULK AT MOST 1048576: true; the input reads as it did. -/
def graphKeepsUptoRow : OpenClaim := { program := "ytlmeponoadhheaa", sum := "206391fe4e3457ecb3d594722add05850a6f5dbf43d2d55dfd3d8df95c2c871a", func := "gleaning/gleaninglaw09.GraphKeeps", spec := "graphKeeps", unfollowed := true, recurses := true, apart := false, narrowed := true }
def GraphKeepsUptoSaid : Prop := graphKeepsUptoRow.holds Try.pinned (OpenSpec.upto graphKeepsSpec)

/-- 'gleaninglaw09.GraphNil', WHERE WHAT IT READS IS OF BULK AT MOST 1048576: true; the input reads as it did. -/
def graphNilUptoRow : OpenClaim := { program := "ytlmeponoadhheaa", sum := "206391fe4e3457ecb3d594722add05850a6f5dbf43d2d55dfd3d8df95c2c871a", func := "gleaning/gleaninglaw09.GraphNil", spec := "graphNil", unfollowed := true, recurses := true, apart := false, narrowed := true }
def GraphNilUptoSaid : Prop := graphNilUptoRow.holds Try.pinned (OpenSpec.upto graphNilSpec)

/-- 'gleaninglaw10.StrengthTells', WHERE WHAT IT READS IS OF BULK AT MOST 1048576: true; the input reads as it did. -/
def strengthTellsUptoRow : OpenClaim := { program := "ytlmeponoadhheaa", sum := "206391fe4e3457ecb3d594722add05850a6f5dbf43d2d55dfd3d8df95c2c871a", func := "gleaning/gleaninglaw10.StrengthTells", spec := "strengthTells", unfollowed := true, recurses := true, apart := false, narrowed := true }
def StrengthTellsUptoSaid : Prop := strengthTellsUptoRow.holds Try.pinned (OpenSpec.upto strengthTellsSpec)

/-- 'gleaninglaw10.StrengthGrows', WHERE WHAT IT READS IS OF BULK AT MOST 1048576: true; the input reads as it did. -/
def strengthGrowsUptoRow : OpenClaim := { program := "ytlmeponoadhheaa", sum := "206391fe4e3457ecb3d594722add05850a6f5dbf43d2d55dfd3d8df95c2c871a", func := "gleaning/gleaninglaw10.StrengthGrows", spec := "strengthGrows", unfollowed := true, recurses := true, apart := false, narrowed := true }
def StrengthGrowsUptoSaid : Prop := strengthGrowsUptoRow.holds Try.pinned (OpenSpec.upto strengthGrowsSpec)

/-- 'gleaninglaw10.StrengthAims', WHERE WHAT IT READS IS OF BULK AT MOST 1048576: true; the input reads as it did. -/
def strengthAimsUptoRow : OpenClaim := { program := "ytlmeponoadhheaa", sum := "206391fe4e3457ecb3d594722add05850a6f5dbf43d2d55dfd3d8df95c2c871a", func := "gleaning/gleaninglaw10.StrengthAims", spec := "strengthAims", unfollowed := true, recurses := true, apart := false, narrowed := true }
def StrengthAimsUptoSaid : Prop := strengthAimsUptoRow.holds Try.pinned (OpenSpec.upto strengthAimsSpec)

/-- 'gleaninglaw10.StrengthRoots', WHERE WHAT IT READS IS OF BULK AT MOST 1048576: true; the input reads as it did. -/
def strengthRootsUptoRow : OpenClaim := { program := "ytlmeponoadhheaa", sum := "206391fe4e3457ecb3d594722add05850a6f5dbf43d2d55dfd3d8df95c2c871a", func := "gleaning/gleaninglaw10.StrengthRoots", spec := "strengthRoots", unfollowed := true, recurses := true, apart := false, narrowed := true }
def StrengthRootsUptoSaid : Prop := strengthRootsUptoRow.holds Try.pinned (OpenSpec.upto strengthRootsSpec)

/-- 'gleaninglaw10.StrengthCloses', WHERE WHAT IT READS IS OF BULK AT MOST 1048576: true; the input reads as it did. -/
def strengthClosesUptoRow : OpenClaim := { program := "ytlmeponoadhheaa", sum := "206391fe4e3457ecb3d594722add05850a6f5dbf43d2d55dfd3d8df95c2c871a", func := "gleaning/gleaninglaw10.StrengthCloses", spec := "strengthCloses", unfollowed := true, recurses := true, apart := false, narrowed := true }
def StrengthClosesUptoSaid : Prop := strengthClosesUptoRow.holds Try.pinned (OpenSpec.upto strengthClosesSpec)

/-- 'gleaninglaw10.StrengthApart', WHERE WHAT IT READS IS OF BULK AT MOST 1048576: true; the input reads as it did. -/
def strengthApartUptoRow : OpenClaim := { program := "ytlmeponoadhheaa", sum := "206391fe4e3457ecb3d594722add05850a6f5dbf43d2d55dfd3d8df95c2c871a", func := "gleaning/gleaninglaw10.StrengthApart", spec := "strengthApart", unfollowed := true, recurses := true, apart := false, narrowed := true }
def StrengthApartUptoSaid : Prop := strengthApartUptoRow.holds Try.pinned (OpenSpec.upto strengthApartSpec)

/-- 'gleaninglaw13.ProcessPlain', WHERE WHAT IT READS IS OF BULK AT MOST 1048576: true; the input reads as it did. -/
def processPlainUptoRow : OpenClaim := { program := "ytlmeponoadhheaa", sum := "206391fe4e3457ecb3d594722add05850a6f5dbf43d2d55dfd3d8df95c2c871a", func := "gleaning/gleaninglaw13.ProcessPlain", spec := "processPlain", unfollowed := true, recurses := true, apart := false, narrowed := true }
def ProcessPlainUptoSaid : Prop := processPlainUptoRow.holds Try.pinned (OpenSpec.upto processPlainSpec)

/-- 'gleaninglaw13.ProcessSoft', WHERE WHAT IT READS IS OF BULK AT MOST 1048576: true; the input reads as it did. -/
def processSoftUptoRow : OpenClaim := { program := "ytlmeponoadhheaa", sum := "206391fe4e3457ecb3d594722add05850a6f5dbf43d2d55dfd3d8df95c2c871a", func := "gleaning/gleaninglaw13.ProcessSoft", spec := "processSoft", unfollowed := true, recurses := true, apart := false, narrowed := true }
def ProcessSoftUptoSaid : Prop := processSoftUptoRow.holds Try.pinned (OpenSpec.upto processSoftSpec)

/-- 'gleaninglaw13.ProcessStrong', WHERE WHAT IT READS IS OF BULK AT MOST 1048576: true; the input reads as it did. -/
def processStrongUptoRow : OpenClaim := { program := "ytlmeponoadhheaa", sum := "206391fe4e3457ecb3d594722add05850a6f5dbf43d2d55dfd3d8df95c2c871a", func := "gleaning/gleaninglaw13.ProcessStrong", spec := "processStrong", unfollowed := true, recurses := true, apart := false, narrowed := true }
def ProcessStrongUptoSaid : Prop := processStrongUptoRow.holds Try.pinned (OpenSpec.upto processStrongSpec)

/-- 'gleaninglaw13.ProcessTells', WHERE WHAT IT READS IS OF BULK AT MOST 1048576: true; the input reads as it did. -/
def processTellsUptoRow : OpenClaim := { program := "ytlmeponoadhheaa", sum := "206391fe4e3457ecb3d594722add05850a6f5dbf43d2d55dfd3d8df95c2c871a", func := "gleaning/gleaninglaw13.ProcessTells", spec := "processTells", unfollowed := true, recurses := true, apart := false, narrowed := true }
def ProcessTellsUptoSaid : Prop := processTellsUptoRow.holds Try.pinned (OpenSpec.upto processTellsSpec)

/-- 'gleaninglaw13.ProcessCloses', WHERE WHAT IT READS IS OF BULK AT MOST 1048576: true; the input reads as it did. -/
def processClosesUptoRow : OpenClaim := { program := "ytlmeponoadhheaa", sum := "206391fe4e3457ecb3d594722add05850a6f5dbf43d2d55dfd3d8df95c2c871a", func := "gleaning/gleaninglaw13.ProcessCloses", spec := "processCloses", unfollowed := true, recurses := true, apart := false, narrowed := true }
def ProcessClosesUptoSaid : Prop := processClosesUptoRow.holds Try.pinned (OpenSpec.upto processClosesSpec)

/-- 'gleaninglaw13.ProcessAgain', WHERE WHAT IT READS IS OF BULK AT MOST 1048576: true; the input reads as it did. -/
def processAgainUptoRow : OpenClaim := { program := "ytlmeponoadhheaa", sum := "206391fe4e3457ecb3d594722add05850a6f5dbf43d2d55dfd3d8df95c2c871a", func := "gleaning/gleaninglaw13.ProcessAgain", spec := "processAgain", unfollowed := true, recurses := true, apart := false, narrowed := true }
def ProcessAgainUptoSaid : Prop := processAgainUptoRow.holds Try.pinned (OpenSpec.upto processAgainSpec)

/-- 'gleaninglaw13.ProcessFinal', WHERE WHAT IT READS IS OF BULK AT MOST 1048576: true; the input reads as it did. -/
def processFinalUptoRow : OpenClaim := { program := "ytlmeponoadhheaa", sum := "206391fe4e3457ecb3d594722add05850a6f5dbf43d2d55dfd3d8df95c2c871a", func := "gleaning/gleaninglaw13.ProcessFinal", spec := "processFinal", unfollowed := true, recurses := true, apart := false, narrowed := true }
def ProcessFinalUptoSaid : Prop := processFinalUptoRow.holds Try.pinned (OpenSpec.upto processFinalSpec)

/-- 'gleaninglaw19.CensusCounts', WHERE WHAT IT READS IS OF BULK AT MOST 1048576: true; the input reads as it did. -/
def censusCountsUptoRow : OpenClaim := { program := "ytlmeponoadhheaa", sum := "206391fe4e3457ecb3d594722add05850a6f5dbf43d2d55dfd3d8df95c2c871a", func := "gleaning/gleaninglaw19.CensusCounts", spec := "censusCounts", unfollowed := true, recurses := true, apart := false, narrowed := true }
def CensusCountsUptoSaid : Prop := censusCountsUptoRow.holds Try.pinned (OpenSpec.upto censusCountsSpec)

/-- 'gleaninglaw19.CensusRows', WHERE WHAT IT READS IS OF BULK AT MOST 1048576: true; the input reads as it did. -/
def censusRowsUptoRow : OpenClaim := { program := "ytlmeponoadhheaa", sum := "206391fe4e3457ecb3d594722add05850a6f5dbf43d2d55dfd3d8df95c2c871a", func := "gleaning/gleaninglaw19.CensusRows", spec := "censusRows", unfollowed := true, recurses := true, apart := false, narrowed := true }
def CensusRowsUptoSaid : Prop := censusRowsUptoRow.holds Try.pinned (OpenSpec.upto censusRowsSpec)

/-- 'gleaninglaw19.CensusDiffs', WHERE WHAT IT READS IS OF BULK AT MOST 1048576: true; the input reads as it did. -/
def censusDiffsUptoRow : OpenClaim := { program := "ytlmeponoadhheaa", sum := "206391fe4e3457ecb3d594722add05850a6f5dbf43d2d55dfd3d8df95c2c871a", func := "gleaning/gleaninglaw19.CensusDiffs", spec := "censusDiffs", unfollowed := true, recurses := true, apart := false, narrowed := true }
def CensusDiffsUptoSaid : Prop := censusDiffsUptoRow.holds Try.pinned (OpenSpec.upto censusDiffsSpec)

/-- 'gleaninglaw19.CensusOrder', WHERE WHAT IT READS IS OF BULK AT MOST 1048576: true; the input reads as it did. -/
def censusOrderUptoRow : OpenClaim := { program := "ytlmeponoadhheaa", sum := "206391fe4e3457ecb3d594722add05850a6f5dbf43d2d55dfd3d8df95c2c871a", func := "gleaning/gleaninglaw19.CensusOrder", spec := "censusOrder", unfollowed := true, recurses := true, apart := false, narrowed := true }
def CensusOrderUptoSaid : Prop := censusOrderUptoRow.holds Try.pinned (OpenSpec.upto censusOrderSpec)

/-- 'gleaninglaw19.CensusMore', WHERE WHAT IT READS IS OF BULK AT MOST 1048576: true; the input reads as it did. -/
def censusMoreUptoRow : OpenClaim := { program := "ytlmeponoadhheaa", sum := "206391fe4e3457ecb3d594722add05850a6f5dbf43d2d55dfd3d8df95c2c871a", func := "gleaning/gleaninglaw19.CensusMore", spec := "censusMore", unfollowed := true, recurses := true, apart := false, narrowed := true }
def CensusMoreUptoSaid : Prop := censusMoreUptoRow.holds Try.pinned (OpenSpec.upto censusMoreSpec)

/-- 'gleaninglaw19.CensusSplits', WHERE WHAT IT READS IS OF BULK AT MOST 1048576: true; the input reads as it did. -/
def censusSplitsUptoRow : OpenClaim := { program := "ytlmeponoadhheaa", sum := "206391fe4e3457ecb3d594722add05850a6f5dbf43d2d55dfd3d8df95c2c871a", func := "gleaning/gleaninglaw19.CensusSplits", spec := "censusSplits", unfollowed := true, recurses := true, apart := false, narrowed := true }
def CensusSplitsUptoSaid : Prop := censusSplitsUptoRow.holds Try.pinned (OpenSpec.upto censusSplitsSpec)

end Rows
end Go.Proofs.Ytlmeponoadhheaa
