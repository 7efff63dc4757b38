/-
  No cell of these rows narrows 'for every input' (looked for: loops, veiled, ifaces, maps, wideKeys, modest, calm, conditions, laid).
  DERIVED. THE GIVEN ROWS OF THIS SEAT. 11 by the template 'for every input the law returns true; each argument reads behind the call as it read before'; 0 by the template 'total and deterministic' (their statements: YtgbdlkajmmjahaaGreatTotals.lean).
  GIVEN WITH THE SEED: the statements are not yours to turn. If you find one false, say at which input.
  Laid BY PROGRAM, IN A SANDBOX (cutbox-rows.mjs): the forced cells as the released guide's own fill.sh prints them over the translation fb769aa813bb231e… (all of the seat's roots in one cut). By AI agents, Wed Nov 11 2026. No macro, syntax, notation, axiom, sorry.
-/
import Derived.Test.YtgbdlkajmmjahaaGreatChecked
import GoSem.Claim
import GoSem.ClaimJoined
import GoSem.ClaimMapViews
import Derived.JoinedTies
import Derived.KernelRfl
namespace Go.Proofs.YtgbdlkajmmjahaaGreat
/- THE CELL 'sum', in the pinned program and in every row, IS THE sha256 OF THE DUMP (.gsa) THAT YtgbdlkajmmjahaaGreatProg.lean LOADS. Nothing in Lean hashes anything: it is a label: what it is worth is what the hold of that sum in a sandbox is worth. -/
noncomputable def Tryz.pinned : Pinned := { name := "ytgbdlkajmmjahaagreat", sum := "fb769aa813bb231edaf92f70b4204baa6575fe3ba5750da3c05a7976131623c7", checked := Tryz.checked }
namespace Rows
def none {H : Type} : Left H := { results := [], args := [] }

/-- 'guidevanelaw05.MachineWaters': WHATEVER THE INPUT: true; the input reads as it did. -/
def machineWatersSpec : ChangeSpec := { name := "machineWaters", fn := fun _ => fun
  | [d1, d2, d3] => { results := [.lit (.bool true)], args := [d1, d2, d3] }
  | _ => none }
def machineWatersRow : OpenClaim := { program := "ytgbdlkajmmjahaagreat", sum := "fb769aa813bb231edaf92f70b4204baa6575fe3ba5750da3c05a7976131623c7", func := "guidevane/guidevanelaw05.MachineWaters", spec := "machineWaters", unfollowed := true, recurses := true, apart := false }
def MachineWatersSaid : Prop := machineWatersRow.holds Tryz.pinned (OpenSpec.ofChange machineWatersSpec)

/-- ITS FALSE NEIGHBOUR: 'it returns false'. Refute it at one input. -/
def machineWatersWrong : ChangeSpec := { name := "machineWaters", fn := fun _ => fun
  | [d1, d2, d3] => { results := [.lit (.bool false)], args := [d1, d2, d3] }
  | _ => none }
def MachineWatersWrongFalsely : Prop := machineWatersRow.holds Tryz.pinned (OpenSpec.ofChange machineWatersWrong)

/-- 'guidevanelaw05.MachineCurves': WHATEVER THE INPUT: true; the input reads as it did. -/
def machineCurvesSpec : ChangeSpec := { name := "machineCurves", fn := fun _ => fun
  | [d1, d2] => { results := [.lit (.bool true)], args := [d1, d2] }
  | _ => none }
def machineCurvesRow : OpenClaim := { program := "ytgbdlkajmmjahaagreat", sum := "fb769aa813bb231edaf92f70b4204baa6575fe3ba5750da3c05a7976131623c7", func := "guidevane/guidevanelaw05.MachineCurves", spec := "machineCurves", unfollowed := true, recurses := true, apart := false }
def MachineCurvesSaid : Prop := machineCurvesRow.holds Tryz.pinned (OpenSpec.ofChange machineCurvesSpec)

/-- ITS FALSE NEIGHBOUR: 'it returns false'. Refute it at one input. -/
def machineCurvesWrong : ChangeSpec := { name := "machineCurves", fn := fun _ => fun
  | [d1, d2] => { results := [.lit (.bool false)], args := [d1, d2] }
  | _ => none }
def MachineCurvesWrongFalsely : Prop := machineCurvesRow.holds Tryz.pinned (OpenSpec.ofChange machineCurvesWrong)

/-- 'guidevanelaw05.MachineFlows': WHATEVER THE INPUT: true; the input reads as it did. -/
def machineFlowsSpec : ChangeSpec := { name := "machineFlows", fn := fun _ => fun
  | [d1, d2, d3] => { results := [.lit (.bool true)], args := [d1, d2, d3] }
  | _ => none }
def machineFlowsRow : OpenClaim := { program := "ytgbdlkajmmjahaagreat", sum := "fb769aa813bb231edaf92f70b4204baa6575fe3ba5750da3c05a7976131623c7", func := "guidevane/guidevanelaw05.MachineFlows", spec := "machineFlows", unfollowed := true, recurses := true, apart := false }
def MachineFlowsSaid : Prop := machineFlowsRow.holds Tryz.pinned (OpenSpec.ofChange machineFlowsSpec)

/-- ITS FALSE NEIGHBOUR: 'it returns false'. Refute it at one input. -/
def machineFlowsWrong : ChangeSpec := { name := "machineFlows", fn := fun _ => fun
  | [d1, d2, d3] => { results := [.lit (.bool false)], args := [d1, d2, d3] }
  | _ => none }
def MachineFlowsWrongFalsely : Prop := machineFlowsRow.holds Tryz.pinned (OpenSpec.ofChange machineFlowsWrong)

/-- 'guidevanelaw05.MachineLines': WHATEVER THE INPUT: true; the input reads as it did. -/
def machineLinesSpec : ChangeSpec := { name := "machineLines", fn := fun _ => fun
  | [d1, d2, d3] => { results := [.lit (.bool true)], args := [d1, d2, d3] }
  | _ => none }
def machineLinesRow : OpenClaim := { program := "ytgbdlkajmmjahaagreat", sum := "fb769aa813bb231edaf92f70b4204baa6575fe3ba5750da3c05a7976131623c7", func := "guidevane/guidevanelaw05.MachineLines", spec := "machineLines", unfollowed := true, recurses := true, apart := false }
def MachineLinesSaid : Prop := machineLinesRow.holds Tryz.pinned (OpenSpec.ofChange machineLinesSpec)

/-- ITS FALSE NEIGHBOUR: 'it returns false'. Refute it at one input. -/
def machineLinesWrong : ChangeSpec := { name := "machineLines", fn := fun _ => fun
  | [d1, d2, d3] => { results := [.lit (.bool false)], args := [d1, d2, d3] }
  | _ => none }
def MachineLinesWrongFalsely : Prop := machineLinesRow.holds Tryz.pinned (OpenSpec.ofChange machineLinesWrong)

/-- 'guidevanelaw05.MachineWaterways': WHATEVER THE INPUT: true; the input reads as it did. -/
def machineWaterwaysSpec : ChangeSpec := { name := "machineWaterways", fn := fun _ => fun
  | [d1, d2, d3] => { results := [.lit (.bool true)], args := [d1, d2, d3] }
  | _ => none }
def machineWaterwaysRow : OpenClaim := { program := "ytgbdlkajmmjahaagreat", sum := "fb769aa813bb231edaf92f70b4204baa6575fe3ba5750da3c05a7976131623c7", func := "guidevane/guidevanelaw05.MachineWaterways", spec := "machineWaterways", unfollowed := true, recurses := true, apart := false }
def MachineWaterwaysSaid : Prop := machineWaterwaysRow.holds Tryz.pinned (OpenSpec.ofChange machineWaterwaysSpec)

/-- ITS FALSE NEIGHBOUR: 'it returns false'. Refute it at one input. -/
def machineWaterwaysWrong : ChangeSpec := { name := "machineWaterways", fn := fun _ => fun
  | [d1, d2, d3] => { results := [.lit (.bool false)], args := [d1, d2, d3] }
  | _ => none }
def MachineWaterwaysWrongFalsely : Prop := machineWaterwaysRow.holds Tryz.pinned (OpenSpec.ofChange machineWaterwaysWrong)

/-- 'guidevanelaw05.MachineMost': WHATEVER THE INPUT: true; the input reads as it did. -/
def machineMostSpec : ChangeSpec := { name := "machineMost", fn := fun _ => fun
  | [d1, d2, d3] => { results := [.lit (.bool true)], args := [d1, d2, d3] }
  | _ => none }
def machineMostRow : OpenClaim := { program := "ytgbdlkajmmjahaagreat", sum := "fb769aa813bb231edaf92f70b4204baa6575fe3ba5750da3c05a7976131623c7", func := "guidevane/guidevanelaw05.MachineMost", spec := "machineMost", unfollowed := true, recurses := true, apart := false }
def MachineMostSaid : Prop := machineMostRow.holds Tryz.pinned (OpenSpec.ofChange machineMostSpec)

/-- ITS FALSE NEIGHBOUR: 'it returns false'. Refute it at one input. -/
def machineMostWrong : ChangeSpec := { name := "machineMost", fn := fun _ => fun
  | [d1, d2, d3] => { results := [.lit (.bool false)], args := [d1, d2, d3] }
  | _ => none }
def MachineMostWrongFalsely : Prop := machineMostRow.holds Tryz.pinned (OpenSpec.ofChange machineMostWrong)

/-- 'guidevanelaw05.MachineLocations': WHATEVER THE INPUT: true; the input reads as it did. -/
def machineLocationsSpec : ChangeSpec := { name := "machineLocations", fn := fun _ => fun
  | [d1, d2, d3] => { results := [.lit (.bool true)], args := [d1, d2, d3] }
  | _ => none }
def machineLocationsRow : OpenClaim := { program := "ytgbdlkajmmjahaagreat", sum := "fb769aa813bb231edaf92f70b4204baa6575fe3ba5750da3c05a7976131623c7", func := "guidevane/guidevanelaw05.MachineLocations", spec := "machineLocations", unfollowed := true, recurses := true, apart := false }
def MachineLocationsSaid : Prop := machineLocationsRow.holds Tryz.pinned (OpenSpec.ofChange machineLocationsSpec)

/-- ITS FALSE NEIGHBOUR: 'it returns false'. Refute it at one input. -/
def machineLocationsWrong : ChangeSpec := { name := "machineLocations", fn := fun _ => fun
  | [d1, d2, d3] => { results := [.lit (.bool false)], args := [d1, d2, d3] }
  | _ => none }
def MachineLocationsWrongFalsely : Prop := machineLocationsRow.holds Tryz.pinned (OpenSpec.ofChange machineLocationsWrong)

/-- 'guidevanelaw05.MachineAllPoints': WHATEVER THE INPUT: true; the input reads as it did. -/
def machineAllPointsSpec : ChangeSpec := { name := "machineAllPoints", fn := fun _ => fun
  | [d1, d2, d3] => { results := [.lit (.bool true)], args := [d1, d2, d3] }
  | _ => none }
def machineAllPointsRow : OpenClaim := { program := "ytgbdlkajmmjahaagreat", sum := "fb769aa813bb231edaf92f70b4204baa6575fe3ba5750da3c05a7976131623c7", func := "guidevane/guidevanelaw05.MachineAllPoints", spec := "machineAllPoints", unfollowed := true, recurses := true, apart := false }
def MachineAllPointsSaid : Prop := machineAllPointsRow.holds Tryz.pinned (OpenSpec.ofChange machineAllPointsSpec)

/-- ITS FALSE NEIGHBOUR: 'it returns false'. Refute it at one input. -/
def machineAllPointsWrong : ChangeSpec := { name := "machineAllPoints", fn := fun _ => fun
  | [d1, d2, d3] => { results := [.lit (.bool false)], args := [d1, d2, d3] }
  | _ => none }
def MachineAllPointsWrongFalsely : Prop := machineAllPointsRow.holds Tryz.pinned (OpenSpec.ofChange machineAllPointsWrong)

/-- 'guidevanelaw05.MachineSpots': WHATEVER THE INPUT: true; the input reads as it did. -/
def machineSpotsSpec : ChangeSpec := { name := "machineSpots", fn := fun _ => fun
  | [d1, d2] => { results := [.lit (.bool true)], args := [d1, d2] }
  | _ => none }
def machineSpotsRow : OpenClaim := { program := "ytgbdlkajmmjahaagreat", sum := "fb769aa813bb231edaf92f70b4204baa6575fe3ba5750da3c05a7976131623c7", func := "guidevane/guidevanelaw05.MachineSpots", spec := "machineSpots", unfollowed := true, recurses := true, apart := false }
def MachineSpotsSaid : Prop := machineSpotsRow.holds Tryz.pinned (OpenSpec.ofChange machineSpotsSpec)

/-- ITS FALSE NEIGHBOUR: 'it returns false'. Refute it at one input. -/
def machineSpotsWrong : ChangeSpec := { name := "machineSpots", fn := fun _ => fun
  | [d1, d2] => { results := [.lit (.bool false)], args := [d1, d2] }
  | _ => none }
def MachineSpotsWrongFalsely : Prop := machineSpotsRow.holds Tryz.pinned (OpenSpec.ofChange machineSpotsWrong)

/-- 'guidevanelaw05.MachineThereAndBack': WHATEVER THE INPUT: true; the input reads as it did. -/
def machineThereAndBackSpec : ChangeSpec := { name := "machineThereAndBack", fn := fun _ => fun
  | [d1, d2, d3] => { results := [.lit (.bool true)], args := [d1, d2, d3] }
  | _ => none }
def machineThereAndBackRow : OpenClaim := { program := "ytgbdlkajmmjahaagreat", sum := "fb769aa813bb231edaf92f70b4204baa6575fe3ba5750da3c05a7976131623c7", func := "guidevane/guidevanelaw05.MachineThereAndBack", spec := "machineThereAndBack", unfollowed := true, recurses := true, apart := false }
def MachineThereAndBackSaid : Prop := machineThereAndBackRow.holds Tryz.pinned (OpenSpec.ofChange machineThereAndBackSpec)

/-- ITS FALSE NEIGHBOUR: 'it returns false'. Refute it at one input. -/
def machineThereAndBackWrong : ChangeSpec := { name := "machineThereAndBack", fn := fun _ => fun
  | [d1, d2, d3] => { results := [.lit (.bool false)], args := [d1, d2, d3] }
  | _ => none }
def MachineThereAndBackWrongFalsely : Prop := machineThereAndBackRow.holds Tryz.pinned (OpenSpec.ofChange machineThereAndBackWrong)

/-- 'guidevanelaw05.MachineJoins': WHATEVER THE INPUT: true; the input reads as it did. -/
def machineJoinsSpec : ChangeSpec := { name := "machineJoins", fn := fun _ => fun
  | [d1, d2, d3] => { results := [.lit (.bool true)], args := [d1, d2, d3] }
  | _ => none }
def machineJoinsRow : OpenClaim := { program := "ytgbdlkajmmjahaagreat", sum := "fb769aa813bb231edaf92f70b4204baa6575fe3ba5750da3c05a7976131623c7", func := "guidevane/guidevanelaw05.MachineJoins", spec := "machineJoins", unfollowed := true, recurses := true, apart := false }
def MachineJoinsSaid : Prop := machineJoinsRow.holds Tryz.pinned (OpenSpec.ofChange machineJoinsSpec)

/-- ITS FALSE NEIGHBOUR: 'it returns false'. Refute it at one input. -/
def machineJoinsWrong : ChangeSpec := { name := "machineJoins", fn := fun _ => fun
  | [d1, d2, d3] => { results := [.lit (.bool false)], args := [d1, d2, d3] }
  | _ => none }
def MachineJoinsWrongFalsely : Prop := machineJoinsRow.holds Tryz.pinned (OpenSpec.ofChange machineJoinsWrong)

/- THE SECOND FORM. 'bulk': how many values and letters a reading holds, each counted each time it is reached (what is shared counts as often as it is met; a slice's spare places count too). A statement '..UptoSaid' is the law's where the arguments, and the package variables that the reading takes, are together of bulk at most 1048576: NARROWER than '..Said'. Prove '..Said' where nothing that the law and all that it calls make is longer than what came in: it says more and counts as full. Else prove '..UptoSaid'. A law counts once. -/
mutual
def uptoBulk {H : Type} : DataW H → Nat
  | .lit (.string bytes) => bytes.length + 1
  | .lit _ => 1
  | .nil => 1
  | .ptr d => uptoBulk d + 1
  | .slice elems spare => uptoBulkAll elems + uptoBulkAll spare + 1
  | .agg parts => uptoBulkAll parts + 1
  | .iface _ d => uptoBulk d + 1
  | .map entries => uptoBulkEntries entries + 1
  | .held _ => 1
def uptoBulkAll {H : Type} : List (DataW H) → Nat
  | [] => 0
  | d :: r => uptoBulk d + uptoBulkAll r
def uptoBulkEntries {H : Type} : List (Lit × DataW H) → Nat
  | [] => 0
  | x :: r => uptoBulkEntry x + uptoBulkEntries r
def uptoBulkEntry {H : Type} : Lit × DataW H → Nat
  | (.string bytes, d) => bytes.length + uptoBulk d + 1
  | (_, d) => uptoBulk d + 1
 end
def uptoSmall : (H : Type) → List (DataW H) → Bool := fun _ ds => decide (uptoBulkAll ds ≤ 1048576)
def OpenSpec.upto (s : _root_.Go.ChangeSpec) : _root_.Go.OpenSpec := { _root_.Go.OpenSpec.ofChange s with cond := some uptoSmall }

/-- 'guidevanelaw05.MachineWaters', WHERE WHAT IT READS IS OF BULK AT MOST 1048576: true; the input reads as it did. -/
def machineWatersUptoRow : OpenClaim := { program := "ytgbdlkajmmjahaagreat", sum := "fb769aa813bb231edaf92f70b4204baa6575fe3ba5750da3c05a7976131623c7", func := "guidevane/guidevanelaw05.MachineWaters", spec := "machineWaters", unfollowed := true, recurses := true, apart := false, narrowed := true }
def MachineWatersUptoSaid : Prop := machineWatersUptoRow.holds Tryz.pinned (OpenSpec.upto machineWatersSpec)

/-- 'guidevanelaw05.MachineCurves', WHERE WHAT IT READS IS OF BULK AT MOST 1048576: true; the input reads as it did. -/
def machineCurvesUptoRow : OpenClaim := { program := "ytgbdlkajmmjahaagreat", sum := "fb769aa813bb231edaf92f70b4204baa6575fe3ba5750da3c05a7976131623c7", func := "guidevane/guidevanelaw05.MachineCurves", spec := "machineCurves", unfollowed := true, recurses := true, apart := false, narrowed := true }
def MachineCurvesUptoSaid : Prop := machineCurvesUptoRow.holds Tryz.pinned (OpenSpec.upto machineCurvesSpec)

/-- 'guidevanelaw05.MachineFlows', WHERE WHAT IT READS IS OF BULK AT MOST 1048576: true; the input reads as it did. -/
def machineFlowsUptoRow : OpenClaim := { program := "ytgbdlkajmmjahaagreat", sum := "fb769aa813bb231edaf92f70b4204baa6575fe3ba5750da3c05a7976131623c7", func := "guidevane/guidevanelaw05.MachineFlows", spec := "machineFlows", unfollowed := true, recurses := true, apart := false, narrowed := true }
def MachineFlowsUptoSaid : Prop := machineFlowsUptoRow.holds Tryz.pinned (OpenSpec.upto machineFlowsSpec)

/-- 'guidevanelaw05.MachineLines', WHERE WHAT IT READS IS OF BULK AT MOST 1048576: true; the input reads as it did. -/
def machineLinesUptoRow : OpenClaim := { program := "ytgbdlkajmmjahaagreat", sum := "fb769aa813bb231edaf92f70b4204baa6575fe3ba5750da3c05a7976131623c7", func := "guidevane/guidevanelaw05.MachineLines", spec := "machineLines", unfollowed := true, recurses := true, apart := false, narrowed := true }
def MachineLinesUptoSaid : Prop := machineLinesUptoRow.holds Tryz.pinned (OpenSpec.upto machineLinesSpec)

/-- 'guidevanelaw05.MachineWaterways', WHERE WHAT IT READS IS OF BULK AT MOST 1048576: true; the input reads as it did. -/
def machineWaterwaysUptoRow : OpenClaim := { program := "ytgbdlkajmmjahaagreat", sum := "fb769aa813bb231edaf92f70b4204baa6575fe3ba5750da3c05a7976131623c7", func := "guidevane/guidevanelaw05.MachineWaterways", spec := "machineWaterways", unfollowed := true, recurses := true, apart := false, narrowed := true }
def MachineWaterwaysUptoSaid : Prop := machineWaterwaysUptoRow.holds Tryz.pinned (OpenSpec.upto machineWaterwaysSpec)

/-- 'guidevanelaw05.MachineMost', WHERE WHAT IT READS IS OF BULK AT MOST 1048576: true; the input reads as it did. -/
def machineMostUptoRow : OpenClaim := { program := "ytgbdlkajmmjahaagreat", sum := "fb769aa813bb231edaf92f70b4204baa6575fe3ba5750da3c05a7976131623c7", func := "guidevane/guidevanelaw05.MachineMost", spec := "machineMost", unfollowed := true, recurses := true, apart := false, narrowed := true }
def MachineMostUptoSaid : Prop := machineMostUptoRow.holds Tryz.pinned (OpenSpec.upto machineMostSpec)

/-- 'guidevanelaw05.MachineLocations', WHERE WHAT IT READS IS OF BULK AT MOST 1048576: true; the input reads as it did. -/
def machineLocationsUptoRow : OpenClaim := { program := "ytgbdlkajmmjahaagreat", sum := "fb769aa813bb231edaf92f70b4204baa6575fe3ba5750da3c05a7976131623c7", func := "guidevane/guidevanelaw05.MachineLocations", spec := "machineLocations", unfollowed := true, recurses := true, apart := false, narrowed := true }
def MachineLocationsUptoSaid : Prop := machineLocationsUptoRow.holds Tryz.pinned (OpenSpec.upto machineLocationsSpec)

/-- 'guidevanelaw05.MachineAllPoints', WHERE WHAT IT READS IS OF BULK AT MOST 1048576: true; the input reads as it did. -/
def machineAllPointsUptoRow : OpenClaim := { program := "ytgbdlkajmmjahaagreat", sum := "fb769aa813bb231edaf92f70b4204baa6575fe3ba5750da3c05a7976131623c7", func := "guidevane/guidevanelaw05.MachineAllPoints", spec := "machineAllPoints", unfollowed := true, recurses := true, apart := false, narrowed := true }
def MachineAllPointsUptoSaid : Prop := machineAllPointsUptoRow.holds Tryz.pinned (OpenSpec.upto machineAllPointsSpec)

/-- 'guidevanelaw05.MachineSpots', WHERE WHAT IT READS IS OF BULK AT MOST 1048576: true; the input reads as it did. -/
def machineSpotsUptoRow : OpenClaim := { program := "ytgbdlkajmmjahaagreat", sum := "fb769aa813bb231edaf92f70b4204baa6575fe3ba5750da3c05a7976131623c7", func := "guidevane/guidevanelaw05.MachineSpots", spec := "machineSpots", unfollowed := true, recurses := true, apart := false, narrowed := true }
def MachineSpotsUptoSaid : Prop := machineSpotsUptoRow.holds Tryz.pinned (OpenSpec.upto machineSpotsSpec)

/-- 'guidevanelaw05.MachineThereAndBack', WHERE WHAT IT READS IS OF BULK AT MOST 1048576: true; the input reads as it did. -/
def machineThereAndBackUptoRow : OpenClaim := { program := "ytgbdlkajmmjahaagreat", sum := "fb769aa813bb231edaf92f70b4204baa6575fe3ba5750da3c05a7976131623c7", func := "guidevane/guidevanelaw05.MachineThereAndBack", spec := "machineThereAndBack", unfollowed := true, recurses := true, apart := false, narrowed := true }
def MachineThereAndBackUptoSaid : Prop := machineThereAndBackUptoRow.holds Tryz.pinned (OpenSpec.upto machineThereAndBackSpec)

/-- 'guidevanelaw05.MachineJoins', WHERE WHAT IT READS IS OF BULK AT MOST 1048576: true; the input reads as it did. -/
def machineJoinsUptoRow : OpenClaim := { program := "ytgbdlkajmmjahaagreat", sum := "fb769aa813bb231edaf92f70b4204baa6575fe3ba5750da3c05a7976131623c7", func := "guidevane/guidevanelaw05.MachineJoins", spec := "machineJoins", unfollowed := true, recurses := true, apart := false, narrowed := true }
def MachineJoinsUptoSaid : Prop := machineJoinsUptoRow.holds Tryz.pinned (OpenSpec.upto machineJoinsSpec)

end Rows
end Go.Proofs.YtgbdlkajmmjahaaGreat
