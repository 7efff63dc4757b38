/-
  No cell of these rows narrows 'for every input' (looked for: loops, veiled, ifaces, maps, wideKeys, modest, calm, conditions, laid).
  DERIVED. THE GIVEN ROWS OF THIS SEAT. 11 by the template 'for every input the law returns true; each argument reads behind the call as it read before'; 0 by the template 'total and deterministic' (their statements: YtkomdfgffgkphaaTotals.lean).
  GIVEN WITH THE SEED: the statements are not yours to turn. If you find one false, say at which input.
  Laid BY PROGRAM, IN A SANDBOX (cutbox-rows.mjs): the forced cells as the released guide's own fill.sh prints them over the translation bbcce82e8fc4ecd1… (all of the seat's roots in one cut). By AI agents, Wed Nov 11 2026. No macro, syntax, notation, axiom, sorry.
-/
import Derived.Test.YtkomdfgffgkphaaChecked
import GoSem.Claim
import GoSem.ClaimJoined
import GoSem.ClaimMapViews
import Derived.JoinedTies
import Derived.KernelRfl
namespace Go.Proofs.Ytkomdfgffgkphaa
/- THE CELL 'sum', in the pinned program and in every row, IS THE sha256 OF THE DUMP (.gsa) THAT YtkomdfgffgkphaaProg.lean LOADS. Nothing in Lean hashes anything: it is a label: what it is worth is what the hold of that sum in a sandbox is worth. -/
noncomputable def Try.pinned : Pinned := { name := "ytkomdfgffgkphaa", sum := "bbcce82e8fc4ecd1d2455769fee96b1254f2382e11004998de34a8a0c75c00d8", checked := Try.checked }
namespace Rows
def none {H : Type} : Left H := { results := [], args := [] }

/-- 'guidevanelaw02.WaterNets': WHATEVER THE INPUT: true; the input reads as it did. -/
def waterNetsSpec : ChangeSpec := { name := "waterNets", fn := fun _ => fun
  | [d1, d2, d3] => { results := [.lit (.bool true)], args := [d1, d2, d3] }
  | _ => none }
def waterNetsRow : OpenClaim := { program := "ytkomdfgffgkphaa", sum := "bbcce82e8fc4ecd1d2455769fee96b1254f2382e11004998de34a8a0c75c00d8", func := "guidevane/guidevanelaw02.WaterNets", spec := "waterNets", unfollowed := true, recurses := true, apart := false }
def WaterNetsSaid : Prop := waterNetsRow.holds Try.pinned (OpenSpec.ofChange waterNetsSpec)

/-- ITS FALSE NEIGHBOUR: 'it returns false'. Refute it at one input. -/
def waterNetsWrong : ChangeSpec := { name := "waterNets", fn := fun _ => fun
  | [d1, d2, d3] => { results := [.lit (.bool false)], args := [d1, d2, d3] }
  | _ => none }
def WaterNetsWrongFalsely : Prop := waterNetsRow.holds Try.pinned (OpenSpec.ofChange waterNetsWrong)

/-- 'guidevanelaw02.WaterMonotone': WHATEVER THE INPUT: true; the input reads as it did. -/
def waterMonotoneSpec : ChangeSpec := { name := "waterMonotone", fn := fun _ => fun
  | [d1, d2, d3] => { results := [.lit (.bool true)], args := [d1, d2, d3] }
  | _ => none }
def waterMonotoneRow : OpenClaim := { program := "ytkomdfgffgkphaa", sum := "bbcce82e8fc4ecd1d2455769fee96b1254f2382e11004998de34a8a0c75c00d8", func := "guidevane/guidevanelaw02.WaterMonotone", spec := "waterMonotone", unfollowed := true, recurses := true, apart := false }
def WaterMonotoneSaid : Prop := waterMonotoneRow.holds Try.pinned (OpenSpec.ofChange waterMonotoneSpec)

/-- ITS FALSE NEIGHBOUR: 'it returns false'. Refute it at one input. -/
def waterMonotoneWrong : ChangeSpec := { name := "waterMonotone", fn := fun _ => fun
  | [d1, d2, d3] => { results := [.lit (.bool false)], args := [d1, d2, d3] }
  | _ => none }
def WaterMonotoneWrongFalsely : Prop := waterMonotoneRow.holds Try.pinned (OpenSpec.ofChange waterMonotoneWrong)

/-- 'guidevanelaw02.WaterReaches': WHATEVER THE INPUT: true; the input reads as it did. -/
def waterReachesSpec : ChangeSpec := { name := "waterReaches", fn := fun _ => fun
  | [d1, d2, d3] => { results := [.lit (.bool true)], args := [d1, d2, d3] }
  | _ => none }
def waterReachesRow : OpenClaim := { program := "ytkomdfgffgkphaa", sum := "bbcce82e8fc4ecd1d2455769fee96b1254f2382e11004998de34a8a0c75c00d8", func := "guidevane/guidevanelaw02.WaterReaches", spec := "waterReaches", unfollowed := true, recurses := true, apart := false }
def WaterReachesSaid : Prop := waterReachesRow.holds Try.pinned (OpenSpec.ofChange waterReachesSpec)

/-- ITS FALSE NEIGHBOUR: 'it returns false'. Refute it at one input. -/
def waterReachesWrong : ChangeSpec := { name := "waterReaches", fn := fun _ => fun
  | [d1, d2, d3] => { results := [.lit (.bool false)], args := [d1, d2, d3] }
  | _ => none }
def WaterReachesWrongFalsely : Prop := waterReachesRow.holds Try.pinned (OpenSpec.ofChange waterReachesWrong)

/-- 'guidevanelaw02.WaterKept': WHATEVER THE INPUT: true; the input reads as it did. -/
def waterKeptSpec : ChangeSpec := { name := "waterKept", fn := fun _ => fun
  | [d1, d2] => { results := [.lit (.bool true)], args := [d1, d2] }
  | _ => none }
def waterKeptRow : OpenClaim := { program := "ytkomdfgffgkphaa", sum := "bbcce82e8fc4ecd1d2455769fee96b1254f2382e11004998de34a8a0c75c00d8", func := "guidevane/guidevanelaw02.WaterKept", spec := "waterKept", unfollowed := true, recurses := true, apart := false }
def WaterKeptSaid : Prop := waterKeptRow.holds Try.pinned (OpenSpec.ofChange waterKeptSpec)

/-- ITS FALSE NEIGHBOUR: 'it returns false'. Refute it at one input. -/
def waterKeptWrong : ChangeSpec := { name := "waterKept", fn := fun _ => fun
  | [d1, d2] => { results := [.lit (.bool false)], args := [d1, d2] }
  | _ => none }
def WaterKeptWrongFalsely : Prop := waterKeptRow.holds Try.pinned (OpenSpec.ofChange waterKeptWrong)

/-- 'guidevanelaw02.WaterSplits': WHATEVER THE INPUT: true; the input reads as it did. -/
def waterSplitsSpec : ChangeSpec := { name := "waterSplits", fn := fun _ => fun
  | [d1, d2, d3] => { results := [.lit (.bool true)], args := [d1, d2, d3] }
  | _ => none }
def waterSplitsRow : OpenClaim := { program := "ytkomdfgffgkphaa", sum := "bbcce82e8fc4ecd1d2455769fee96b1254f2382e11004998de34a8a0c75c00d8", func := "guidevane/guidevanelaw02.WaterSplits", spec := "waterSplits", unfollowed := true, recurses := true, apart := false }
def WaterSplitsSaid : Prop := waterSplitsRow.holds Try.pinned (OpenSpec.ofChange waterSplitsSpec)

/-- ITS FALSE NEIGHBOUR: 'it returns false'. Refute it at one input. -/
def waterSplitsWrong : ChangeSpec := { name := "waterSplits", fn := fun _ => fun
  | [d1, d2, d3] => { results := [.lit (.bool false)], args := [d1, d2, d3] }
  | _ => none }
def WaterSplitsWrongFalsely : Prop := waterSplitsRow.holds Try.pinned (OpenSpec.ofChange waterSplitsWrong)

/-- 'guidevanelaw02.WaterFlows': WHATEVER THE INPUT: true; the input reads as it did. -/
def waterFlowsSpec : ChangeSpec := { name := "waterFlows", fn := fun _ => fun
  | [d1, d2] => { results := [.lit (.bool true)], args := [d1, d2] }
  | _ => none }
def waterFlowsRow : OpenClaim := { program := "ytkomdfgffgkphaa", sum := "bbcce82e8fc4ecd1d2455769fee96b1254f2382e11004998de34a8a0c75c00d8", func := "guidevane/guidevanelaw02.WaterFlows", spec := "waterFlows", unfollowed := true, recurses := true, apart := false }
def WaterFlowsSaid : Prop := waterFlowsRow.holds Try.pinned (OpenSpec.ofChange waterFlowsSpec)

/-- ITS FALSE NEIGHBOUR: 'it returns false'. Refute it at one input. -/
def waterFlowsWrong : ChangeSpec := { name := "waterFlows", fn := fun _ => fun
  | [d1, d2] => { results := [.lit (.bool false)], args := [d1, d2] }
  | _ => none }
def WaterFlowsWrongFalsely : Prop := waterFlowsRow.holds Try.pinned (OpenSpec.ofChange waterFlowsWrong)

/-- 'guidevanelaw02.WaterCuts': WHATEVER THE INPUT: true; the input reads as it did. -/
def waterCutsSpec : ChangeSpec := { name := "waterCuts", fn := fun _ => fun
  | [d1, d2, d3] => { results := [.lit (.bool true)], args := [d1, d2, d3] }
  | _ => none }
def waterCutsRow : OpenClaim := { program := "ytkomdfgffgkphaa", sum := "bbcce82e8fc4ecd1d2455769fee96b1254f2382e11004998de34a8a0c75c00d8", func := "guidevane/guidevanelaw02.WaterCuts", spec := "waterCuts", unfollowed := true, recurses := true, apart := false }
def WaterCutsSaid : Prop := waterCutsRow.holds Try.pinned (OpenSpec.ofChange waterCutsSpec)

/-- ITS FALSE NEIGHBOUR: 'it returns false'. Refute it at one input. -/
def waterCutsWrong : ChangeSpec := { name := "waterCuts", fn := fun _ => fun
  | [d1, d2, d3] => { results := [.lit (.bool false)], args := [d1, d2, d3] }
  | _ => none }
def WaterCutsWrongFalsely : Prop := waterCutsRow.holds Try.pinned (OpenSpec.ofChange waterCutsWrong)

/-- 'guidevanelaw02.WaterTwoSigns': WHATEVER THE INPUT: true; the input reads as it did. -/
def waterTwoSignsSpec : ChangeSpec := { name := "waterTwoSigns", fn := fun _ => fun
  | [d1, d2] => { results := [.lit (.bool true)], args := [d1, d2] }
  | _ => none }
def waterTwoSignsRow : OpenClaim := { program := "ytkomdfgffgkphaa", sum := "bbcce82e8fc4ecd1d2455769fee96b1254f2382e11004998de34a8a0c75c00d8", func := "guidevane/guidevanelaw02.WaterTwoSigns", spec := "waterTwoSigns", unfollowed := true, recurses := true, apart := false }
def WaterTwoSignsSaid : Prop := waterTwoSignsRow.holds Try.pinned (OpenSpec.ofChange waterTwoSignsSpec)

/-- ITS FALSE NEIGHBOUR: 'it returns false'. Refute it at one input. -/
def waterTwoSignsWrong : ChangeSpec := { name := "waterTwoSigns", fn := fun _ => fun
  | [d1, d2] => { results := [.lit (.bool false)], args := [d1, d2] }
  | _ => none }
def WaterTwoSignsWrongFalsely : Prop := waterTwoSignsRow.holds Try.pinned (OpenSpec.ofChange waterTwoSignsWrong)

/-- 'guidevanelaw02.WaterHeads': WHATEVER THE INPUT: true; the input reads as it did. -/
def waterHeadsSpec : ChangeSpec := { name := "waterHeads", fn := fun _ => fun
  | [d1, d2, d3] => { results := [.lit (.bool true)], args := [d1, d2, d3] }
  | _ => none }
def waterHeadsRow : OpenClaim := { program := "ytkomdfgffgkphaa", sum := "bbcce82e8fc4ecd1d2455769fee96b1254f2382e11004998de34a8a0c75c00d8", func := "guidevane/guidevanelaw02.WaterHeads", spec := "waterHeads", unfollowed := true, recurses := true, apart := false }
def WaterHeadsSaid : Prop := waterHeadsRow.holds Try.pinned (OpenSpec.ofChange waterHeadsSpec)

/-- ITS FALSE NEIGHBOUR: 'it returns false'. Refute it at one input. -/
def waterHeadsWrong : ChangeSpec := { name := "waterHeads", fn := fun _ => fun
  | [d1, d2, d3] => { results := [.lit (.bool false)], args := [d1, d2, d3] }
  | _ => none }
def WaterHeadsWrongFalsely : Prop := waterHeadsRow.holds Try.pinned (OpenSpec.ofChange waterHeadsWrong)

/-- 'guidevanelaw02.WaterDrawn': WHATEVER THE INPUT: true; the input reads as it did. -/
def waterDrawnSpec : ChangeSpec := { name := "waterDrawn", fn := fun _ => fun
  | [d1, d2, d3] => { results := [.lit (.bool true)], args := [d1, d2, d3] }
  | _ => none }
def waterDrawnRow : OpenClaim := { program := "ytkomdfgffgkphaa", sum := "bbcce82e8fc4ecd1d2455769fee96b1254f2382e11004998de34a8a0c75c00d8", func := "guidevane/guidevanelaw02.WaterDrawn", spec := "waterDrawn", unfollowed := true, recurses := true, apart := false }
def WaterDrawnSaid : Prop := waterDrawnRow.holds Try.pinned (OpenSpec.ofChange waterDrawnSpec)

/-- ITS FALSE NEIGHBOUR: 'it returns false'. Refute it at one input. -/
def waterDrawnWrong : ChangeSpec := { name := "waterDrawn", fn := fun _ => fun
  | [d1, d2, d3] => { results := [.lit (.bool false)], args := [d1, d2, d3] }
  | _ => none }
def WaterDrawnWrongFalsely : Prop := waterDrawnRow.holds Try.pinned (OpenSpec.ofChange waterDrawnWrong)

/-- 'guidevanelaw02.WaterValves': WHATEVER THE INPUT: true; the input reads as it did. -/
def waterValvesSpec : ChangeSpec := { name := "waterValves", fn := fun _ => fun
  | [d1, d2, d3] => { results := [.lit (.bool true)], args := [d1, d2, d3] }
  | _ => none }
def waterValvesRow : OpenClaim := { program := "ytkomdfgffgkphaa", sum := "bbcce82e8fc4ecd1d2455769fee96b1254f2382e11004998de34a8a0c75c00d8", func := "guidevane/guidevanelaw02.WaterValves", spec := "waterValves", unfollowed := true, recurses := true, apart := false }
def WaterValvesSaid : Prop := waterValvesRow.holds Try.pinned (OpenSpec.ofChange waterValvesSpec)

/-- ITS FALSE NEIGHBOUR: 'it returns false'. Refute it at one input. -/
def waterValvesWrong : ChangeSpec := { name := "waterValves", fn := fun _ => fun
  | [d1, d2, d3] => { results := [.lit (.bool false)], args := [d1, d2, d3] }
  | _ => none }
def WaterValvesWrongFalsely : Prop := waterValvesRow.holds Try.pinned (OpenSpec.ofChange waterValvesWrong)

/- THE SECOND FORM. 'bulk': how many values and letters a reading holds, each counted each time it is reached (what is shared counts as often as it is met; a slice's spare places count too). A statement '..UptoSaid' is the law's where the arguments, and the package variables that the reading takes, are together of bulk at most 1048576: NARROWER than '..Said'. Prove '..Said' where nothing that the law and all that it calls make is longer than what came in: it says more and counts as full. Else prove '..UptoSaid'. A law counts once. -/
mutual
def uptoBulk {H : Type} : DataW H → Nat
  | .lit (.string bytes) => bytes.length + 1
  | .lit _ => 1
  | .nil => 1
  | .ptr d => uptoBulk d + 1
  | .slice elems spare => uptoBulkAll elems + uptoBulkAll spare + 1
  | .agg parts => uptoBulkAll parts + 1
  | .iface _ d => uptoBulk d + 1
  | .map entries => uptoBulkEntries entries + 1
  | .held _ => 1
def uptoBulkAll {H : Type} : List (DataW H) → Nat
  | [] => 0
  | d :: r => uptoBulk d + uptoBulkAll r
def uptoBulkEntries {H : Type} : List (Lit × DataW H) → Nat
  | [] => 0
  | x :: r => uptoBulkEntry x + uptoBulkEntries r
def uptoBulkEntry {H : Type} : Lit × DataW H → Nat
  | (.string bytes, d) => bytes.length + uptoBulk d + 1
  | (_, d) => uptoBulk d + 1
 end
def uptoSmall : (H : Type) → List (DataW H) → Bool := fun _ ds => decide (uptoBulkAll ds ≤ 1048576)
def OpenSpec.upto (s : _root_.Go.ChangeSpec) : _root_.Go.OpenSpec := { _root_.Go.OpenSpec.ofChange s with cond := some uptoSmall }

/-- 'guidevanelaw02.WaterNets', WHERE WHAT IT READS IS OF BULK AT MOST 1048576: true; the input reads as it did. -/
def waterNetsUptoRow : OpenClaim := { program := "ytkomdfgffgkphaa", sum := "bbcce82e8fc4ecd1d2455769fee96b1254f2382e11004998de34a8a0c75c00d8", func := "guidevane/guidevanelaw02.WaterNets", spec := "waterNets", unfollowed := true, recurses := true, apart := false, narrowed := true }
def WaterNetsUptoSaid : Prop := waterNetsUptoRow.holds Try.pinned (OpenSpec.upto waterNetsSpec)

/-- 'guidevanelaw02.WaterMonotone', WHERE WHAT IT READS IS OF BULK AT MOST 1048576: true; the input reads as it did. -/
def waterMonotoneUptoRow : OpenClaim := { program := "ytkomdfgffgkphaa", sum := "bbcce82e8fc4ecd1d2455769fee96b1254f2382e11004998de34a8a0c75c00d8", func := "guidevane/guidevanelaw02.WaterMonotone", spec := "waterMonotone", unfollowed := true, recurses := true, apart := false, narrowed := true }
def WaterMonotoneUptoSaid : Prop := waterMonotoneUptoRow.holds Try.pinned (OpenSpec.upto waterMonotoneSpec)

/-- 'guidevanelaw02.WaterReaches', WHERE WHAT IT READS IS OF BULK AT MOST 1048576: true; the input reads as it did. -/
def waterReachesUptoRow : OpenClaim := { program := "ytkomdfgffgkphaa", sum := "bbcce82e8fc4ecd1d2455769fee96b1254f2382e11004998de34a8a0c75c00d8", func := "guidevane/guidevanelaw02.WaterReaches", spec := "waterReaches", unfollowed := true, recurses := true, apart := false, narrowed := true }
def WaterReachesUptoSaid : Prop := waterReachesUptoRow.holds Try.pinned (OpenSpec.upto waterReachesSpec)

/-- 'guidevanelaw02.WaterKept', WHERE WHAT IT READS IS OF BULK AT MOST 1048576: true; the input reads as it did. -/
def waterKeptUptoRow : OpenClaim := { program := "ytkomdfgffgkphaa", sum := "bbcce82e8fc4ecd1d2455769fee96b1254f2382e11004998de34a8a0c75c00d8", func := "guidevane/guidevanelaw02.WaterKept", spec := "waterKept", unfollowed := true, recurses := true, apart := false, narrowed := true }
def WaterKeptUptoSaid : Prop := waterKeptUptoRow.holds Try.pinned (OpenSpec.upto waterKeptSpec)

/-- 'guidevanelaw02.WaterSplits', WHERE WHAT IT READS IS OF BULK AT MOST 1048576: true; the input reads as it did. -/
def waterSplitsUptoRow : OpenClaim := { program := "ytkomdfgffgkphaa", sum := "bbcce82e8fc4ecd1d2455769fee96b1254f2382e11004998de34a8a0c75c00d8", func := "guidevane/guidevanelaw02.WaterSplits", spec := "waterSplits", unfollowed := true, recurses := true, apart := false, narrowed := true }
def WaterSplitsUptoSaid : Prop := waterSplitsUptoRow.holds Try.pinned (OpenSpec.upto waterSplitsSpec)

/-- 'guidevanelaw02.WaterFlows', WHERE WHAT IT READS IS OF BULK AT MOST 1048576: true; the input reads as it did. -/
def waterFlowsUptoRow : OpenClaim := { program := "ytkomdfgffgkphaa", sum := "bbcce82e8fc4ecd1d2455769fee96b1254f2382e11004998de34a8a0c75c00d8", func := "guidevane/guidevanelaw02.WaterFlows", spec := "waterFlows", unfollowed := true, recurses := true, apart := false, narrowed := true }
def WaterFlowsUptoSaid : Prop := waterFlowsUptoRow.holds Try.pinned (OpenSpec.upto waterFlowsSpec)

/-- 'guidevanelaw02.WaterCuts', WHERE WHAT IT READS IS OF BULK AT MOST 1048576: true; the input reads as it did. -/
def waterCutsUptoRow : OpenClaim := { program := "ytkomdfgffgkphaa", sum := "bbcce82e8fc4ecd1d2455769fee96b1254f2382e11004998de34a8a0c75c00d8", func := "guidevane/guidevanelaw02.WaterCuts", spec := "waterCuts", unfollowed := true, recurses := true, apart := false, narrowed := true }
def WaterCutsUptoSaid : Prop := waterCutsUptoRow.holds Try.pinned (OpenSpec.upto waterCutsSpec)

/-- 'guidevanelaw02.WaterTwoSigns', WHERE WHAT IT READS IS OF BULK AT MOST 1048576: true; the input reads as it did. -/
def waterTwoSignsUptoRow : OpenClaim := { program := "ytkomdfgffgkphaa", sum := "bbcce82e8fc4ecd1d2455769fee96b1254f2382e11004998de34a8a0c75c00d8", func := "guidevane/guidevanelaw02.WaterTwoSigns", spec := "waterTwoSigns", unfollowed := true, recurses := true, apart := false, narrowed := true }
def WaterTwoSignsUptoSaid : Prop := waterTwoSignsUptoRow.holds Try.pinned (OpenSpec.upto waterTwoSignsSpec)

/-- 'guidevanelaw02.WaterHeads', WHERE WHAT IT READS IS OF BULK AT MOST 1048576: true; the input reads as it did. -/
def waterHeadsUptoRow : OpenClaim := { program := "ytkomdfgffgkphaa", sum := "bbcce82e8fc4ecd1d2455769fee96b1254f2382e11004998de34a8a0c75c00d8", func := "guidevane/guidevanelaw02.WaterHeads", spec := "waterHeads", unfollowed := true, recurses := true, apart := false, narrowed := true }
def WaterHeadsUptoSaid : Prop := waterHeadsUptoRow.holds Try.pinned (OpenSpec.upto waterHeadsSpec)

/-- 'guidevanelaw02.WaterDrawn', WHERE WHAT IT READS IS OF BULK AT MOST 1048576: true; the input reads as it did. -/
def waterDrawnUptoRow : OpenClaim := { program := "ytkomdfgffgkphaa", sum := "bbcce82e8fc4ecd1d2455769fee96b1254f2382e11004998de34a8a0c75c00d8", func := "guidevane/guidevanelaw02.WaterDrawn", spec := "waterDrawn", unfollowed := true, recurses := true, apart := false, narrowed := true }
def WaterDrawnUptoSaid : Prop := waterDrawnUptoRow.holds Try.pinned (OpenSpec.upto waterDrawnSpec)

/-- 'guidevanelaw02.WaterValves', WHERE WHAT IT READS IS OF BULK AT MOST 1048576: true; the input reads as it did. -/
def waterValvesUptoRow : OpenClaim := { program := "ytkomdfgffgkphaa", sum := "bbcce82e8fc4ecd1d2455769fee96b1254f2382e11004998de34a8a0c75c00d8", func := "guidevane/guidevanelaw02.WaterValves", spec := "waterValves", unfollowed := true, recurses := true, apart := false, narrowed := true }
def WaterValvesUptoSaid : Prop := waterValvesUptoRow.holds Try.pinned (OpenSpec.upto waterValvesSpec)

end Rows
end Go.Proofs.Ytkomdfgffgkphaa
