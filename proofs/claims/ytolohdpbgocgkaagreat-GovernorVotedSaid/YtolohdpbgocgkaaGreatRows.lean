/-
  No cell of these rows narrows 'for every input' (looked for: loops, veiled, ifaces, maps, wideKeys, modest, calm, conditions, laid).
  DERIVED. THE GIVEN ROWS OF THIS SEAT. 13 by the template 'for every input the law returns true; each argument reads behind the call as it read before'; 0 by the template 'total and deterministic' (their statements: YtolohdpbgocgkaaGreatTotals.lean).
  GIVEN WITH THE SEED: the statements are not yours to turn. If you find one false, say at which input.
  Laid BY PROGRAM, IN A SANDBOX (cutbox-rows.mjs): the forced cells as the released guide's own fill.sh prints them over the translation 57610b853eb66b6f… (all of the seat's roots in one cut). By AI agents, Wed Nov 11 2026. No macro, syntax, notation, axiom, sorry.
-/
import Derived.Test.YtolohdpbgocgkaaGreatChecked
import GoSem.Claim
import GoSem.ClaimJoined
import GoSem.ClaimMapViews
import Derived.JoinedTies
import Derived.KernelRfl
namespace Go.Proofs.YtolohdpbgocgkaaGreat
/- THE CELL 'sum', in the pinned program and in every row, IS THE sha256 OF THE DUMP (.gsa) THAT YtolohdpbgocgkaaGreatProg.lean LOADS. Nothing in Lean hashes anything: it is a label: what it is worth is what the hold of that sum in a sandbox is worth. -/
noncomputable def Tryz.pinned : Pinned := { name := "ytolohdpbgocgkaagreat", sum := "57610b853eb66b6fa91b6f7d56295e4999028ca04f515ab12c6c8fec4355bb13", checked := Tryz.checked }
namespace Rows
def none {H : Type} : Left H := { results := [], args := [] }

/-- 'guidevanelaw06.GovernorValues': WHATEVER THE INPUT: true; the input reads as it did. -/
def governorValuesSpec : ChangeSpec := { name := "governorValues", fn := fun _ => fun
  | [d1, d2, d3] => { results := [.lit (.bool true)], args := [d1, d2, d3] }
  | _ => none }
def governorValuesRow : OpenClaim := { program := "ytolohdpbgocgkaagreat", sum := "57610b853eb66b6fa91b6f7d56295e4999028ca04f515ab12c6c8fec4355bb13", func := "guidevane/guidevanelaw06.GovernorValues", spec := "governorValues", unfollowed := true, recurses := true, apart := false }
def GovernorValuesSaid : Prop := governorValuesRow.holds Tryz.pinned (OpenSpec.ofChange governorValuesSpec)

/-- ITS FALSE NEIGHBOUR: 'it returns false'. Refute it at one input. -/
def governorValuesWrong : ChangeSpec := { name := "governorValues", fn := fun _ => fun
  | [d1, d2, d3] => { results := [.lit (.bool false)], args := [d1, d2, d3] }
  | _ => none }
def GovernorValuesWrongFalsely : Prop := governorValuesRow.holds Tryz.pinned (OpenSpec.ofChange governorValuesWrong)

/-- 'guidevanelaw06.GovernorBoxes': WHATEVER THE INPUT: true; the input reads as it did. -/
def governorBoxesSpec : ChangeSpec := { name := "governorBoxes", fn := fun _ => fun
  | [d] => { results := [.lit (.bool true)], args := [d] }
  | _ => none }
def governorBoxesRow : OpenClaim := { program := "ytolohdpbgocgkaagreat", sum := "57610b853eb66b6fa91b6f7d56295e4999028ca04f515ab12c6c8fec4355bb13", func := "guidevane/guidevanelaw06.GovernorBoxes", spec := "governorBoxes", unfollowed := true, recurses := true, apart := false }
def GovernorBoxesSaid : Prop := governorBoxesRow.holds Tryz.pinned (OpenSpec.ofChange governorBoxesSpec)

/-- ITS FALSE NEIGHBOUR: 'it returns false'. Refute it at one input. -/
def governorBoxesWrong : ChangeSpec := { name := "governorBoxes", fn := fun _ => fun
  | [d] => { results := [.lit (.bool false)], args := [d] }
  | _ => none }
def GovernorBoxesWrongFalsely : Prop := governorBoxesRow.holds Tryz.pinned (OpenSpec.ofChange governorBoxesWrong)

/-- 'guidevanelaw06.GovernorWhole': WHATEVER THE INPUT: true; the input reads as it did. -/
def governorWholeSpec : ChangeSpec := { name := "governorWhole", fn := fun _ => fun
  | [d1, d2] => { results := [.lit (.bool true)], args := [d1, d2] }
  | _ => none }
def governorWholeRow : OpenClaim := { program := "ytolohdpbgocgkaagreat", sum := "57610b853eb66b6fa91b6f7d56295e4999028ca04f515ab12c6c8fec4355bb13", func := "guidevane/guidevanelaw06.GovernorWhole", spec := "governorWhole", unfollowed := true, recurses := true, apart := false }
def GovernorWholeSaid : Prop := governorWholeRow.holds Tryz.pinned (OpenSpec.ofChange governorWholeSpec)

/-- ITS FALSE NEIGHBOUR: 'it returns false'. Refute it at one input. -/
def governorWholeWrong : ChangeSpec := { name := "governorWhole", fn := fun _ => fun
  | [d1, d2] => { results := [.lit (.bool false)], args := [d1, d2] }
  | _ => none }
def GovernorWholeWrongFalsely : Prop := governorWholeRow.holds Tryz.pinned (OpenSpec.ofChange governorWholeWrong)

/-- 'guidevanelaw06.GovernorLoops': WHATEVER THE INPUT: true; the input reads as it did. -/
def governorLoopsSpec : ChangeSpec := { name := "governorLoops", fn := fun _ => fun
  | [d1, d2] => { results := [.lit (.bool true)], args := [d1, d2] }
  | _ => none }
def governorLoopsRow : OpenClaim := { program := "ytolohdpbgocgkaagreat", sum := "57610b853eb66b6fa91b6f7d56295e4999028ca04f515ab12c6c8fec4355bb13", func := "guidevane/guidevanelaw06.GovernorLoops", spec := "governorLoops", unfollowed := true, recurses := true, apart := false }
def GovernorLoopsSaid : Prop := governorLoopsRow.holds Tryz.pinned (OpenSpec.ofChange governorLoopsSpec)

/-- ITS FALSE NEIGHBOUR: 'it returns false'. Refute it at one input. -/
def governorLoopsWrong : ChangeSpec := { name := "governorLoops", fn := fun _ => fun
  | [d1, d2] => { results := [.lit (.bool false)], args := [d1, d2] }
  | _ => none }
def GovernorLoopsWrongFalsely : Prop := governorLoopsRow.holds Tryz.pinned (OpenSpec.ofChange governorLoopsWrong)

/-- 'guidevanelaw06.GovernorGates': WHATEVER THE INPUT: true; the input reads as it did. -/
def governorGatesSpec : ChangeSpec := { name := "governorGates", fn := fun _ => fun
  | [d1, d2, d3] => { results := [.lit (.bool true)], args := [d1, d2, d3] }
  | _ => none }
def governorGatesRow : OpenClaim := { program := "ytolohdpbgocgkaagreat", sum := "57610b853eb66b6fa91b6f7d56295e4999028ca04f515ab12c6c8fec4355bb13", func := "guidevane/guidevanelaw06.GovernorGates", spec := "governorGates", unfollowed := true, recurses := true, apart := false }
def GovernorGatesSaid : Prop := governorGatesRow.holds Tryz.pinned (OpenSpec.ofChange governorGatesSpec)

/-- ITS FALSE NEIGHBOUR: 'it returns false'. Refute it at one input. -/
def governorGatesWrong : ChangeSpec := { name := "governorGates", fn := fun _ => fun
  | [d1, d2, d3] => { results := [.lit (.bool false)], args := [d1, d2, d3] }
  | _ => none }
def GovernorGatesWrongFalsely : Prop := governorGatesRow.holds Tryz.pinned (OpenSpec.ofChange governorGatesWrong)

/-- 'guidevanelaw06.GovernorRuns': WHATEVER THE INPUT: true; the input reads as it did. -/
def governorRunsSpec : ChangeSpec := { name := "governorRuns", fn := fun _ => fun
  | [d1, d2, d3] => { results := [.lit (.bool true)], args := [d1, d2, d3] }
  | _ => none }
def governorRunsRow : OpenClaim := { program := "ytolohdpbgocgkaagreat", sum := "57610b853eb66b6fa91b6f7d56295e4999028ca04f515ab12c6c8fec4355bb13", func := "guidevane/guidevanelaw06.GovernorRuns", spec := "governorRuns", unfollowed := true, recurses := true, apart := false }
def GovernorRunsSaid : Prop := governorRunsRow.holds Tryz.pinned (OpenSpec.ofChange governorRunsSpec)

/-- ITS FALSE NEIGHBOUR: 'it returns false'. Refute it at one input. -/
def governorRunsWrong : ChangeSpec := { name := "governorRuns", fn := fun _ => fun
  | [d1, d2, d3] => { results := [.lit (.bool false)], args := [d1, d2, d3] }
  | _ => none }
def GovernorRunsWrongFalsely : Prop := governorRunsRow.holds Tryz.pinned (OpenSpec.ofChange governorRunsWrong)

/-- 'guidevanelaw06.GovernorTables': WHATEVER THE INPUT: true; the input reads as it did. -/
def governorTablesSpec : ChangeSpec := { name := "governorTables", fn := fun _ => fun
  | [d1, d2] => { results := [.lit (.bool true)], args := [d1, d2] }
  | _ => none }
def governorTablesRow : OpenClaim := { program := "ytolohdpbgocgkaagreat", sum := "57610b853eb66b6fa91b6f7d56295e4999028ca04f515ab12c6c8fec4355bb13", func := "guidevane/guidevanelaw06.GovernorTables", spec := "governorTables", unfollowed := true, recurses := true, apart := false }
def GovernorTablesSaid : Prop := governorTablesRow.holds Tryz.pinned (OpenSpec.ofChange governorTablesSpec)

/-- ITS FALSE NEIGHBOUR: 'it returns false'. Refute it at one input. -/
def governorTablesWrong : ChangeSpec := { name := "governorTables", fn := fun _ => fun
  | [d1, d2] => { results := [.lit (.bool false)], args := [d1, d2] }
  | _ => none }
def GovernorTablesWrongFalsely : Prop := governorTablesRow.holds Tryz.pinned (OpenSpec.ofChange governorTablesWrong)

/-- 'guidevanelaw06.GovernorTwoWays': WHATEVER THE INPUT: true; the input reads as it did. -/
def governorTwoWaysSpec : ChangeSpec := { name := "governorTwoWays", fn := fun _ => fun
  | [d1, d2, d3] => { results := [.lit (.bool true)], args := [d1, d2, d3] }
  | _ => none }
def governorTwoWaysRow : OpenClaim := { program := "ytolohdpbgocgkaagreat", sum := "57610b853eb66b6fa91b6f7d56295e4999028ca04f515ab12c6c8fec4355bb13", func := "guidevane/guidevanelaw06.GovernorTwoWays", spec := "governorTwoWays", unfollowed := true, recurses := true, apart := false }
def GovernorTwoWaysSaid : Prop := governorTwoWaysRow.holds Tryz.pinned (OpenSpec.ofChange governorTwoWaysSpec)

/-- ITS FALSE NEIGHBOUR: 'it returns false'. Refute it at one input. -/
def governorTwoWaysWrong : ChangeSpec := { name := "governorTwoWays", fn := fun _ => fun
  | [d1, d2, d3] => { results := [.lit (.bool false)], args := [d1, d2, d3] }
  | _ => none }
def GovernorTwoWaysWrongFalsely : Prop := governorTwoWaysRow.holds Tryz.pinned (OpenSpec.ofChange governorTwoWaysWrong)

/-- 'guidevanelaw06.GovernorShares': WHATEVER THE INPUT: true; the input reads as it did. -/
def governorSharesSpec : ChangeSpec := { name := "governorShares", fn := fun _ => fun
  | [d1, d2, d3] => { results := [.lit (.bool true)], args := [d1, d2, d3] }
  | _ => none }
def governorSharesRow : OpenClaim := { program := "ytolohdpbgocgkaagreat", sum := "57610b853eb66b6fa91b6f7d56295e4999028ca04f515ab12c6c8fec4355bb13", func := "guidevane/guidevanelaw06.GovernorShares", spec := "governorShares", unfollowed := true, recurses := true, apart := false }
def GovernorSharesSaid : Prop := governorSharesRow.holds Tryz.pinned (OpenSpec.ofChange governorSharesSpec)

/-- ITS FALSE NEIGHBOUR: 'it returns false'. Refute it at one input. -/
def governorSharesWrong : ChangeSpec := { name := "governorShares", fn := fun _ => fun
  | [d1, d2, d3] => { results := [.lit (.bool false)], args := [d1, d2, d3] }
  | _ => none }
def GovernorSharesWrongFalsely : Prop := governorSharesRow.holds Tryz.pinned (OpenSpec.ofChange governorSharesWrong)

/-- 'guidevanelaw06.GovernorVoted': WHATEVER THE INPUT: true; the input reads as it did. -/
def governorVotedSpec : ChangeSpec := { name := "governorVoted", fn := fun _ => fun
  | [d1, d2, d3] => { results := [.lit (.bool true)], args := [d1, d2, d3] }
  | _ => none }
def governorVotedRow : OpenClaim := { program := "ytolohdpbgocgkaagreat", sum := "57610b853eb66b6fa91b6f7d56295e4999028ca04f515ab12c6c8fec4355bb13", func := "guidevane/guidevanelaw06.GovernorVoted", spec := "governorVoted", unfollowed := true, recurses := true, apart := false }
def GovernorVotedSaid : Prop := governorVotedRow.holds Tryz.pinned (OpenSpec.ofChange governorVotedSpec)

/-- ITS FALSE NEIGHBOUR: 'it returns false'. Refute it at one input. -/
def governorVotedWrong : ChangeSpec := { name := "governorVoted", fn := fun _ => fun
  | [d1, d2, d3] => { results := [.lit (.bool false)], args := [d1, d2, d3] }
  | _ => none }
def GovernorVotedWrongFalsely : Prop := governorVotedRow.holds Tryz.pinned (OpenSpec.ofChange governorVotedWrong)

/-- 'guidevanelaw06.GovernorWithin': WHATEVER THE INPUT: true; the input reads as it did. -/
def governorWithinSpec : ChangeSpec := { name := "governorWithin", fn := fun _ => fun
  | [d1, d2, d3] => { results := [.lit (.bool true)], args := [d1, d2, d3] }
  | _ => none }
def governorWithinRow : OpenClaim := { program := "ytolohdpbgocgkaagreat", sum := "57610b853eb66b6fa91b6f7d56295e4999028ca04f515ab12c6c8fec4355bb13", func := "guidevane/guidevanelaw06.GovernorWithin", spec := "governorWithin", unfollowed := true, recurses := true, apart := false }
def GovernorWithinSaid : Prop := governorWithinRow.holds Tryz.pinned (OpenSpec.ofChange governorWithinSpec)

/-- ITS FALSE NEIGHBOUR: 'it returns false'. Refute it at one input. -/
def governorWithinWrong : ChangeSpec := { name := "governorWithin", fn := fun _ => fun
  | [d1, d2, d3] => { results := [.lit (.bool false)], args := [d1, d2, d3] }
  | _ => none }
def GovernorWithinWrongFalsely : Prop := governorWithinRow.holds Tryz.pinned (OpenSpec.ofChange governorWithinWrong)

/-- 'guidevanelaw06.GovernorMargins': WHATEVER THE INPUT: true; the input reads as it did. -/
def governorMarginsSpec : ChangeSpec := { name := "governorMargins", fn := fun _ => fun
  | [d1, d2] => { results := [.lit (.bool true)], args := [d1, d2] }
  | _ => none }
def governorMarginsRow : OpenClaim := { program := "ytolohdpbgocgkaagreat", sum := "57610b853eb66b6fa91b6f7d56295e4999028ca04f515ab12c6c8fec4355bb13", func := "guidevane/guidevanelaw06.GovernorMargins", spec := "governorMargins", unfollowed := true, recurses := true, apart := false }
def GovernorMarginsSaid : Prop := governorMarginsRow.holds Tryz.pinned (OpenSpec.ofChange governorMarginsSpec)

/-- ITS FALSE NEIGHBOUR: 'it returns false'. Refute it at one input. -/
def governorMarginsWrong : ChangeSpec := { name := "governorMargins", fn := fun _ => fun
  | [d1, d2] => { results := [.lit (.bool false)], args := [d1, d2] }
  | _ => none }
def GovernorMarginsWrongFalsely : Prop := governorMarginsRow.holds Tryz.pinned (OpenSpec.ofChange governorMarginsWrong)

/-- 'guidevanelaw06.GovernorShifts': WHATEVER THE INPUT: true; the input reads as it did. -/
def governorShiftsSpec : ChangeSpec := { name := "governorShifts", fn := fun _ => fun
  | [d1, d2, d3] => { results := [.lit (.bool true)], args := [d1, d2, d3] }
  | _ => none }
def governorShiftsRow : OpenClaim := { program := "ytolohdpbgocgkaagreat", sum := "57610b853eb66b6fa91b6f7d56295e4999028ca04f515ab12c6c8fec4355bb13", func := "guidevane/guidevanelaw06.GovernorShifts", spec := "governorShifts", unfollowed := true, recurses := true, apart := false }
def GovernorShiftsSaid : Prop := governorShiftsRow.holds Tryz.pinned (OpenSpec.ofChange governorShiftsSpec)

/-- ITS FALSE NEIGHBOUR: 'it returns false'. Refute it at one input. -/
def governorShiftsWrong : ChangeSpec := { name := "governorShifts", fn := fun _ => fun
  | [d1, d2, d3] => { results := [.lit (.bool false)], args := [d1, d2, d3] }
  | _ => none }
def GovernorShiftsWrongFalsely : Prop := governorShiftsRow.holds Tryz.pinned (OpenSpec.ofChange governorShiftsWrong)

/- THE SECOND FORM. 'bulk': how many values and letters a reading holds, each counted each time it is reached (what is shared counts as often as it is met; a slice's spare places count too). A statement '..UptoSaid' is the law's where the arguments, and the package variables that the reading takes, are together of bulk at most 1048576: NARROWER than '..Said'. Prove '..Said' where nothing that the law and all that it calls make is longer than what came in: it says more and counts as full. Else prove '..UptoSaid'. A law counts once. -/
mutual
def uptoBulk {H : Type} : DataW H → Nat
  | .lit (.string bytes) => bytes.length + 1
  | .lit _ => 1
  | .nil => 1
  | .ptr d => uptoBulk d + 1
  | .slice elems spare => uptoBulkAll elems + uptoBulkAll spare + 1
  | .agg parts => uptoBulkAll parts + 1
  | .iface _ d => uptoBulk d + 1
  | .map entries => uptoBulkEntries entries + 1
  | .held _ => 1
def uptoBulkAll {H : Type} : List (DataW H) → Nat
  | [] => 0
  | d :: r => uptoBulk d + uptoBulkAll r
def uptoBulkEntries {H : Type} : List (Lit × DataW H) → Nat
  | [] => 0
  | x :: r => uptoBulkEntry x + uptoBulkEntries r
def uptoBulkEntry {H : Type} : Lit × DataW H → Nat
  | (.string bytes, d) => bytes.length + uptoBulk d + 1
  | (_, d) => uptoBulk d + 1
 end
def uptoSmall : (H : Type) → List (DataW H) → Bool := fun _ ds => decide (uptoBulkAll ds ≤ 1048576)
def OpenSpec.upto (s : _root_.Go.ChangeSpec) : _root_.Go.OpenSpec := { _root_.Go.OpenSpec.ofChange s with cond := some uptoSmall }

/-- 'guidevanelaw06.GovernorValues', WHERE WHAT IT READS IS OF BULK AT MOST 1048576: true; the input reads as it did. -/
def governorValuesUptoRow : OpenClaim := { program := "ytolohdpbgocgkaagreat", sum := "57610b853eb66b6fa91b6f7d56295e4999028ca04f515ab12c6c8fec4355bb13", func := "guidevane/guidevanelaw06.GovernorValues", spec := "governorValues", unfollowed := true, recurses := true, apart := false, narrowed := true }
def GovernorValuesUptoSaid : Prop := governorValuesUptoRow.holds Tryz.pinned (OpenSpec.upto governorValuesSpec)

/-- 'guidevanelaw06.GovernorBoxes', WHERE WHAT IT READS IS OF BULK AT MOST 1048576: true; the input reads as it did. -/
def governorBoxesUptoRow : OpenClaim := { program := "ytolohdpbgocgkaagreat", sum := "57610b853eb66b6fa91b6f7d56295e4999028ca04f515ab12c6c8fec4355bb13", func := "guidevane/guidevanelaw06.GovernorBoxes", spec := "governorBoxes", unfollowed := true, recurses := true, apart := false, narrowed := true }
def GovernorBoxesUptoSaid : Prop := governorBoxesUptoRow.holds Tryz.pinned (OpenSpec.upto governorBoxesSpec)

/-- 'guidevanelaw06.GovernorWhole', WHERE WHAT IT READS IS OF BULK AT MOST 1048576: true; the input reads as it did. -/
def governorWholeUptoRow : OpenClaim := { program := "ytolohdpbgocgkaagreat", sum := "57610b853eb66b6fa91b6f7d56295e4999028ca04f515ab12c6c8fec4355bb13", func := "guidevane/guidevanelaw06.GovernorWhole", spec := "governorWhole", unfollowed := true, recurses := true, apart := false, narrowed := true }
def GovernorWholeUptoSaid : Prop := governorWholeUptoRow.holds Tryz.pinned (OpenSpec.upto governorWholeSpec)

/-- 'guidevanelaw06.GovernorLoops', WHERE WHAT IT READS IS OF BULK AT MOST 1048576: true; the input reads as it did. -/
def governorLoopsUptoRow : OpenClaim := { program := "ytolohdpbgocgkaagreat", sum := "57610b853eb66b6fa91b6f7d56295e4999028ca04f515ab12c6c8fec4355bb13", func := "guidevane/guidevanelaw06.GovernorLoops", spec := "governorLoops", unfollowed := true, recurses := true, apart := false, narrowed := true }
def GovernorLoopsUptoSaid : Prop := governorLoopsUptoRow.holds Tryz.pinned (OpenSpec.upto governorLoopsSpec)

/-- 'guidevanelaw06.GovernorGates', WHERE WHAT IT READS IS OF BULK AT MOST 1048576: true; the input reads as it did. -/
def governorGatesUptoRow : OpenClaim := { program := "ytolohdpbgocgkaagreat", sum := "57610b853eb66b6fa91b6f7d56295e4999028ca04f515ab12c6c8fec4355bb13", func := "guidevane/guidevanelaw06.GovernorGates", spec := "governorGates", unfollowed := true, recurses := true, apart := false, narrowed := true }
def GovernorGatesUptoSaid : Prop := governorGatesUptoRow.holds Tryz.pinned (OpenSpec.upto governorGatesSpec)

/-- 'guidevanelaw06.GovernorRuns', WHERE WHAT IT READS IS OF BULK AT MOST 1048576: true; the input reads as it did. -/
def governorRunsUptoRow : OpenClaim := { program := "ytolohdpbgocgkaagreat", sum := "57610b853eb66b6fa91b6f7d56295e4999028ca04f515ab12c6c8fec4355bb13", func := "guidevane/guidevanelaw06.GovernorRuns", spec := "governorRuns", unfollowed := true, recurses := true, apart := false, narrowed := true }
def GovernorRunsUptoSaid : Prop := governorRunsUptoRow.holds Tryz.pinned (OpenSpec.upto governorRunsSpec)

/-- 'guidevanelaw06.GovernorTables', WHERE WHAT IT READS IS OF BULK AT MOST 1048576: true; the input reads as it did. -/
def governorTablesUptoRow : OpenClaim := { program := "ytolohdpbgocgkaagreat", sum := "57610b853eb66b6fa91b6f7d56295e4999028ca04f515ab12c6c8fec4355bb13", func := "guidevane/guidevanelaw06.GovernorTables", spec := "governorTables", unfollowed := true, recurses := true, apart := false, narrowed := true }
def GovernorTablesUptoSaid : Prop := governorTablesUptoRow.holds Tryz.pinned (OpenSpec.upto governorTablesSpec)

/-- 'guidevanelaw06.GovernorTwoWays', WHERE WHAT IT READS IS OF BULK AT MOST 1048576: true; the input reads as it did. -/
def governorTwoWaysUptoRow : OpenClaim := { program := "ytolohdpbgocgkaagreat", sum := "57610b853eb66b6fa91b6f7d56295e4999028ca04f515ab12c6c8fec4355bb13", func := "guidevane/guidevanelaw06.GovernorTwoWays", spec := "governorTwoWays", unfollowed := true, recurses := true, apart := false, narrowed := true }
def GovernorTwoWaysUptoSaid : Prop := governorTwoWaysUptoRow.holds Tryz.pinned (OpenSpec.upto governorTwoWaysSpec)

/-- 'guidevanelaw06.GovernorShares', WHERE WHAT IT READS IS OF BULK AT MOST 1048576: true; the input reads as it did. -/
def governorSharesUptoRow : OpenClaim := { program := "ytolohdpbgocgkaagreat", sum := "57610b853eb66b6fa91b6f7d56295e4999028ca04f515ab12c6c8fec4355bb13", func := "guidevane/guidevanelaw06.GovernorShares", spec := "governorShares", unfollowed := true, recurses := true, apart := false, narrowed := true }
def GovernorSharesUptoSaid : Prop := governorSharesUptoRow.holds Tryz.pinned (OpenSpec.upto governorSharesSpec)

/-- 'guidevanelaw06.GovernorVoted', WHERE WHAT IT READS IS OF BULK AT MOST 1048576: true; the input reads as it did. -/
def governorVotedUptoRow : OpenClaim := { program := "ytolohdpbgocgkaagreat", sum := "57610b853eb66b6fa91b6f7d56295e4999028ca04f515ab12c6c8fec4355bb13", func := "guidevane/guidevanelaw06.GovernorVoted", spec := "governorVoted", unfollowed := true, recurses := true, apart := false, narrowed := true }
def GovernorVotedUptoSaid : Prop := governorVotedUptoRow.holds Tryz.pinned (OpenSpec.upto governorVotedSpec)

/-- 'guidevanelaw06.GovernorWithin', WHERE WHAT IT READS IS OF BULK AT MOST 1048576: true; the input reads as it did. -/
def governorWithinUptoRow : OpenClaim := { program := "ytolohdpbgocgkaagreat", sum := "57610b853eb66b6fa91b6f7d56295e4999028ca04f515ab12c6c8fec4355bb13", func := "guidevane/guidevanelaw06.GovernorWithin", spec := "governorWithin", unfollowed := true, recurses := true, apart := false, narrowed := true }
def GovernorWithinUptoSaid : Prop := governorWithinUptoRow.holds Tryz.pinned (OpenSpec.upto governorWithinSpec)

/-- 'guidevanelaw06.GovernorMargins', WHERE WHAT IT READS IS OF BULK AT MOST 1048576: true; the input reads as it did. -/
def governorMarginsUptoRow : OpenClaim := { program := "ytolohdpbgocgkaagreat", sum := "57610b853eb66b6fa91b6f7d56295e4999028ca04f515ab12c6c8fec4355bb13", func := "guidevane/guidevanelaw06.GovernorMargins", spec := "governorMargins", unfollowed := true, recurses := true, apart := false, narrowed := true }
def GovernorMarginsUptoSaid : Prop := governorMarginsUptoRow.holds Tryz.pinned (OpenSpec.upto governorMarginsSpec)

/-- 'guidevanelaw06.GovernorShifts', WHERE WHAT IT READS IS OF BULK AT MOST 1048576: true; the input reads as it did. -/
def governorShiftsUptoRow : OpenClaim := { program := "ytolohdpbgocgkaagreat", sum := "57610b853eb66b6fa91b6f7d56295e4999028ca04f515ab12c6c8fec4355bb13", func := "guidevane/guidevanelaw06.GovernorShifts", spec := "governorShifts", unfollowed := true, recurses := true, apart := false, narrowed := true }
def GovernorShiftsUptoSaid : Prop := governorShiftsUptoRow.holds Tryz.pinned (OpenSpec.upto governorShiftsSpec)

end Rows
end Go.Proofs.YtolohdpbgocgkaaGreat
