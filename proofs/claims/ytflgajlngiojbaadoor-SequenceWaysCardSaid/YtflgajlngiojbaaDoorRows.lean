/-
  NARROWER THAN 'FOR EVERY INPUT', by the rows' own cells (each row's printed sentence says how): SequenceWays: laid · SequenceVotes: laid · SequenceHomes: laid · SequenceHalls: laid · SequenceLocked: laid · SequenceTurns: laid · SequenceRuns: laid · SequenceNoFaster: laid · SequencePlans: laid · SequenceProofs: laid.
  DERIVED. THE GIVEN ROWS OF THIS SEAT. 10 by the template 'for every input the law returns true; each argument reads behind the call as it read before'; 0 by the template 'total and deterministic' (their statements: YtflgajlngiojbaaDoorTotals.lean).
  GIVEN WITH THE SEED: the statements are not yours to turn. If you find one false, say at which input.
  Laid BY PROGRAM, IN A SANDBOX (cutbox-rows.mjs): the forced cells as the released guide's own fill.sh prints them over the translation 3383fe7d246e2e29… (all of the seat's roots in one cut). By AI agents, Wed Nov 11 2026. No macro, syntax, notation, axiom, sorry.
-/
import Derived.Test.YtflgajlngiojbaaDoorChecked
import GoSem.Claim
import GoSem.ClaimJoined
import GoSem.ClaimMapViews
import Derived.JoinedTies
import Derived.KernelRfl
namespace Go.Proofs.YtflgajlngiojbaaDoor
/- THE CELL 'sum', in the pinned program and in every row, IS THE sha256 OF THE DUMP (.gsa) THAT YtflgajlngiojbaaDoorProg.lean LOADS. Nothing in Lean hashes anything: it is a label: what it is worth is what the hold of that sum in a sandbox is worth. -/
noncomputable def Tryd.pinned : Pinned := { name := "ytflgajlngiojbaadoor", sum := "3383fe7d246e2e298c50a6b9ec51ae5510237c0657cb6e90f6ff1466a4d76cf7", checked := Tryd.checked }
namespace Rows
def none {H : Type} : Left H := { results := [], args := [] }

/- WHAT THE LISTED PACKAGE-LEVEL VARIABLES READ AS WHEN THE CALL BEGINS. Each datum BY PROGRAM (the guide's laid-datum.mjs) off the statement by which the dump's own 'gosem.cut.vars' lays the variable. In a bare row this is a premise. The card (YtflgajlngiojbaaDoorCards.lean) ties it to the program's text. -/
def laid_guidevane_sequence_noFault {H : Type} : DataW H := .agg [.lit (.int .i64 (-1)), .lit (.bool false)]

/-- 'guidevanelaw07.SequenceWays': WHATEVER THE INPUT: true; the input reads as it did. -/
def sequenceWaysSpec : ChangeSpec := { name := "sequenceWays", fn := fun _ => fun
  | [d1, d2, d3] => { results := [.lit (.bool true)], args := [d1, d2, d3] }
  | _ => none }
def sequenceWaysRow : OpenClaim := { program := "ytflgajlngiojbaadoor", sum := "3383fe7d246e2e298c50a6b9ec51ae5510237c0657cb6e90f6ff1466a4d76cf7", func := "guidevane/guidevanelaw07.SequenceWays", spec := "sequenceWays", unfollowed := true, recurses := true, named := ["guidevane/sequence.noFault"], plainKeys := false, apart := false, laid := [("guidevane/sequence.noFault", laid_guidevane_sequence_noFault)] }
def SequenceWaysSaid : Prop := sequenceWaysRow.holds Tryd.pinned (OpenSpec.ofChange sequenceWaysSpec)

/-- ITS FALSE NEIGHBOUR: 'it returns false'. Refute it at one input. -/
def sequenceWaysWrong : ChangeSpec := { name := "sequenceWays", fn := fun _ => fun
  | [d1, d2, d3] => { results := [.lit (.bool false)], args := [d1, d2, d3] }
  | _ => none }
def SequenceWaysWrongFalsely : Prop := sequenceWaysRow.holds Tryd.pinned (OpenSpec.ofChange sequenceWaysWrong)

/-- 'guidevanelaw07.SequenceVotes': WHATEVER THE INPUT: true; the input reads as it did. -/
def sequenceVotesSpec : ChangeSpec := { name := "sequenceVotes", fn := fun _ => fun
  | [d1, d2] => { results := [.lit (.bool true)], args := [d1, d2] }
  | _ => none }
def sequenceVotesRow : OpenClaim := { program := "ytflgajlngiojbaadoor", sum := "3383fe7d246e2e298c50a6b9ec51ae5510237c0657cb6e90f6ff1466a4d76cf7", func := "guidevane/guidevanelaw07.SequenceVotes", spec := "sequenceVotes", unfollowed := true, recurses := true, named := ["guidevane/sequence.noFault"], plainKeys := false, apart := false, laid := [("guidevane/sequence.noFault", laid_guidevane_sequence_noFault)] }
def SequenceVotesSaid : Prop := sequenceVotesRow.holds Tryd.pinned (OpenSpec.ofChange sequenceVotesSpec)

/-- ITS FALSE NEIGHBOUR: 'it returns false'. Refute it at one input. -/
def sequenceVotesWrong : ChangeSpec := { name := "sequenceVotes", fn := fun _ => fun
  | [d1, d2] => { results := [.lit (.bool false)], args := [d1, d2] }
  | _ => none }
def SequenceVotesWrongFalsely : Prop := sequenceVotesRow.holds Tryd.pinned (OpenSpec.ofChange sequenceVotesWrong)

/-- 'guidevanelaw07.SequenceHomes': WHATEVER THE INPUT: true; the input reads as it did. -/
def sequenceHomesSpec : ChangeSpec := { name := "sequenceHomes", fn := fun _ => fun
  | [d1, d2, d3] => { results := [.lit (.bool true)], args := [d1, d2, d3] }
  | _ => none }
def sequenceHomesRow : OpenClaim := { program := "ytflgajlngiojbaadoor", sum := "3383fe7d246e2e298c50a6b9ec51ae5510237c0657cb6e90f6ff1466a4d76cf7", func := "guidevane/guidevanelaw07.SequenceHomes", spec := "sequenceHomes", unfollowed := true, recurses := true, named := ["guidevane/sequence.noFault"], plainKeys := false, apart := false, laid := [("guidevane/sequence.noFault", laid_guidevane_sequence_noFault)] }
def SequenceHomesSaid : Prop := sequenceHomesRow.holds Tryd.pinned (OpenSpec.ofChange sequenceHomesSpec)

/-- ITS FALSE NEIGHBOUR: 'it returns false'. Refute it at one input. -/
def sequenceHomesWrong : ChangeSpec := { name := "sequenceHomes", fn := fun _ => fun
  | [d1, d2, d3] => { results := [.lit (.bool false)], args := [d1, d2, d3] }
  | _ => none }
def SequenceHomesWrongFalsely : Prop := sequenceHomesRow.holds Tryd.pinned (OpenSpec.ofChange sequenceHomesWrong)

/-- 'guidevanelaw07.SequenceHalls': WHATEVER THE INPUT: true; the input reads as it did. -/
def sequenceHallsSpec : ChangeSpec := { name := "sequenceHalls", fn := fun _ => fun
  | [d1, d2, d3] => { results := [.lit (.bool true)], args := [d1, d2, d3] }
  | _ => none }
def sequenceHallsRow : OpenClaim := { program := "ytflgajlngiojbaadoor", sum := "3383fe7d246e2e298c50a6b9ec51ae5510237c0657cb6e90f6ff1466a4d76cf7", func := "guidevane/guidevanelaw07.SequenceHalls", spec := "sequenceHalls", unfollowed := true, recurses := true, named := ["guidevane/sequence.noFault"], plainKeys := false, apart := false, laid := [("guidevane/sequence.noFault", laid_guidevane_sequence_noFault)] }
def SequenceHallsSaid : Prop := sequenceHallsRow.holds Tryd.pinned (OpenSpec.ofChange sequenceHallsSpec)

/-- ITS FALSE NEIGHBOUR: 'it returns false'. Refute it at one input. -/
def sequenceHallsWrong : ChangeSpec := { name := "sequenceHalls", fn := fun _ => fun
  | [d1, d2, d3] => { results := [.lit (.bool false)], args := [d1, d2, d3] }
  | _ => none }
def SequenceHallsWrongFalsely : Prop := sequenceHallsRow.holds Tryd.pinned (OpenSpec.ofChange sequenceHallsWrong)

/-- 'guidevanelaw07.SequenceLocked': WHATEVER THE INPUT: true; the input reads as it did. -/
def sequenceLockedSpec : ChangeSpec := { name := "sequenceLocked", fn := fun _ => fun
  | [d1, d2, d3] => { results := [.lit (.bool true)], args := [d1, d2, d3] }
  | _ => none }
def sequenceLockedRow : OpenClaim := { program := "ytflgajlngiojbaadoor", sum := "3383fe7d246e2e298c50a6b9ec51ae5510237c0657cb6e90f6ff1466a4d76cf7", func := "guidevane/guidevanelaw07.SequenceLocked", spec := "sequenceLocked", unfollowed := true, recurses := true, named := ["guidevane/sequence.noFault"], plainKeys := false, apart := false, laid := [("guidevane/sequence.noFault", laid_guidevane_sequence_noFault)] }
def SequenceLockedSaid : Prop := sequenceLockedRow.holds Tryd.pinned (OpenSpec.ofChange sequenceLockedSpec)

/-- ITS FALSE NEIGHBOUR: 'it returns false'. Refute it at one input. -/
def sequenceLockedWrong : ChangeSpec := { name := "sequenceLocked", fn := fun _ => fun
  | [d1, d2, d3] => { results := [.lit (.bool false)], args := [d1, d2, d3] }
  | _ => none }
def SequenceLockedWrongFalsely : Prop := sequenceLockedRow.holds Tryd.pinned (OpenSpec.ofChange sequenceLockedWrong)

/-- 'guidevanelaw07.SequenceTurns': WHATEVER THE INPUT: true; the input reads as it did. -/
def sequenceTurnsSpec : ChangeSpec := { name := "sequenceTurns", fn := fun _ => fun
  | [d1, d2, d3] => { results := [.lit (.bool true)], args := [d1, d2, d3] }
  | _ => none }
def sequenceTurnsRow : OpenClaim := { program := "ytflgajlngiojbaadoor", sum := "3383fe7d246e2e298c50a6b9ec51ae5510237c0657cb6e90f6ff1466a4d76cf7", func := "guidevane/guidevanelaw07.SequenceTurns", spec := "sequenceTurns", unfollowed := true, recurses := true, named := ["guidevane/sequence.noFault"], plainKeys := false, apart := false, laid := [("guidevane/sequence.noFault", laid_guidevane_sequence_noFault)] }
def SequenceTurnsSaid : Prop := sequenceTurnsRow.holds Tryd.pinned (OpenSpec.ofChange sequenceTurnsSpec)

/-- ITS FALSE NEIGHBOUR: 'it returns false'. Refute it at one input. -/
def sequenceTurnsWrong : ChangeSpec := { name := "sequenceTurns", fn := fun _ => fun
  | [d1, d2, d3] => { results := [.lit (.bool false)], args := [d1, d2, d3] }
  | _ => none }
def SequenceTurnsWrongFalsely : Prop := sequenceTurnsRow.holds Tryd.pinned (OpenSpec.ofChange sequenceTurnsWrong)

/-- 'guidevanelaw07.SequenceRuns': WHATEVER THE INPUT: true; the input reads as it did. -/
def sequenceRunsSpec : ChangeSpec := { name := "sequenceRuns", fn := fun _ => fun
  | [d1, d2, d3] => { results := [.lit (.bool true)], args := [d1, d2, d3] }
  | _ => none }
def sequenceRunsRow : OpenClaim := { program := "ytflgajlngiojbaadoor", sum := "3383fe7d246e2e298c50a6b9ec51ae5510237c0657cb6e90f6ff1466a4d76cf7", func := "guidevane/guidevanelaw07.SequenceRuns", spec := "sequenceRuns", unfollowed := true, recurses := true, named := ["guidevane/sequence.noFault"], plainKeys := false, apart := false, laid := [("guidevane/sequence.noFault", laid_guidevane_sequence_noFault)] }
def SequenceRunsSaid : Prop := sequenceRunsRow.holds Tryd.pinned (OpenSpec.ofChange sequenceRunsSpec)

/-- ITS FALSE NEIGHBOUR: 'it returns false'. Refute it at one input. -/
def sequenceRunsWrong : ChangeSpec := { name := "sequenceRuns", fn := fun _ => fun
  | [d1, d2, d3] => { results := [.lit (.bool false)], args := [d1, d2, d3] }
  | _ => none }
def SequenceRunsWrongFalsely : Prop := sequenceRunsRow.holds Tryd.pinned (OpenSpec.ofChange sequenceRunsWrong)

/-- 'guidevanelaw07.SequenceNoFaster': WHATEVER THE INPUT: true; the input reads as it did. -/
def sequenceNoFasterSpec : ChangeSpec := { name := "sequenceNoFaster", fn := fun _ => fun
  | [d1, d2, d3] => { results := [.lit (.bool true)], args := [d1, d2, d3] }
  | _ => none }
def sequenceNoFasterRow : OpenClaim := { program := "ytflgajlngiojbaadoor", sum := "3383fe7d246e2e298c50a6b9ec51ae5510237c0657cb6e90f6ff1466a4d76cf7", func := "guidevane/guidevanelaw07.SequenceNoFaster", spec := "sequenceNoFaster", unfollowed := true, recurses := true, named := ["guidevane/sequence.noFault"], plainKeys := false, apart := false, laid := [("guidevane/sequence.noFault", laid_guidevane_sequence_noFault)] }
def SequenceNoFasterSaid : Prop := sequenceNoFasterRow.holds Tryd.pinned (OpenSpec.ofChange sequenceNoFasterSpec)

/-- ITS FALSE NEIGHBOUR: 'it returns false'. Refute it at one input. -/
def sequenceNoFasterWrong : ChangeSpec := { name := "sequenceNoFaster", fn := fun _ => fun
  | [d1, d2, d3] => { results := [.lit (.bool false)], args := [d1, d2, d3] }
  | _ => none }
def SequenceNoFasterWrongFalsely : Prop := sequenceNoFasterRow.holds Tryd.pinned (OpenSpec.ofChange sequenceNoFasterWrong)

/-- 'guidevanelaw07.SequencePlans': WHATEVER THE INPUT: true; the input reads as it did. -/
def sequencePlansSpec : ChangeSpec := { name := "sequencePlans", fn := fun _ => fun
  | [d1, d2, d3] => { results := [.lit (.bool true)], args := [d1, d2, d3] }
  | _ => none }
def sequencePlansRow : OpenClaim := { program := "ytflgajlngiojbaadoor", sum := "3383fe7d246e2e298c50a6b9ec51ae5510237c0657cb6e90f6ff1466a4d76cf7", func := "guidevane/guidevanelaw07.SequencePlans", spec := "sequencePlans", unfollowed := true, recurses := true, named := ["guidevane/sequence.noFault"], plainKeys := false, apart := false, laid := [("guidevane/sequence.noFault", laid_guidevane_sequence_noFault)] }
def SequencePlansSaid : Prop := sequencePlansRow.holds Tryd.pinned (OpenSpec.ofChange sequencePlansSpec)

/-- ITS FALSE NEIGHBOUR: 'it returns false'. Refute it at one input. -/
def sequencePlansWrong : ChangeSpec := { name := "sequencePlans", fn := fun _ => fun
  | [d1, d2, d3] => { results := [.lit (.bool false)], args := [d1, d2, d3] }
  | _ => none }
def SequencePlansWrongFalsely : Prop := sequencePlansRow.holds Tryd.pinned (OpenSpec.ofChange sequencePlansWrong)

/-- 'guidevanelaw07.SequenceProofs': WHATEVER THE INPUT: true; the input reads as it did. -/
def sequenceProofsSpec : ChangeSpec := { name := "sequenceProofs", fn := fun _ => fun
  | [d1, d2] => { results := [.lit (.bool true)], args := [d1, d2] }
  | _ => none }
def sequenceProofsRow : OpenClaim := { program := "ytflgajlngiojbaadoor", sum := "3383fe7d246e2e298c50a6b9ec51ae5510237c0657cb6e90f6ff1466a4d76cf7", func := "guidevane/guidevanelaw07.SequenceProofs", spec := "sequenceProofs", unfollowed := true, recurses := true, named := ["guidevane/sequence.noFault"], plainKeys := false, apart := false, laid := [("guidevane/sequence.noFault", laid_guidevane_sequence_noFault)] }
def SequenceProofsSaid : Prop := sequenceProofsRow.holds Tryd.pinned (OpenSpec.ofChange sequenceProofsSpec)

/-- ITS FALSE NEIGHBOUR: 'it returns false'. Refute it at one input. -/
def sequenceProofsWrong : ChangeSpec := { name := "sequenceProofs", fn := fun _ => fun
  | [d1, d2] => { results := [.lit (.bool false)], args := [d1, d2] }
  | _ => none }
def SequenceProofsWrongFalsely : Prop := sequenceProofsRow.holds Tryd.pinned (OpenSpec.ofChange sequenceProofsWrong)

/- THE SECOND FORM. 'bulk': how many values and letters a reading holds, each counted each time it is reached (what is shared counts as often as it is met; a slice's spare places count too). A statement '..UptoSaid' is the law's where the arguments, and the package variables that the reading takes, are together of bulk at most 1048576: NARROWER than '..Said'. Prove '..Said' where nothing that the law and all that it calls make is longer than what came in: it says more and counts as full. Else prove '..UptoSaid'. A law counts once. -/
mutual
def uptoBulk {H : Type} : DataW H → Nat
  | .lit (.string bytes) => bytes.length + 1
  | .lit _ => 1
  | .nil => 1
  | .ptr d => uptoBulk d + 1
  | .slice elems spare => uptoBulkAll elems + uptoBulkAll spare + 1
  | .agg parts => uptoBulkAll parts + 1
  | .iface _ d => uptoBulk d + 1
  | .map entries => uptoBulkEntries entries + 1
  | .held _ => 1
def uptoBulkAll {H : Type} : List (DataW H) → Nat
  | [] => 0
  | d :: r => uptoBulk d + uptoBulkAll r
def uptoBulkEntries {H : Type} : List (Lit × DataW H) → Nat
  | [] => 0
  | x :: r => uptoBulkEntry x + uptoBulkEntries r
def uptoBulkEntry {H : Type} : Lit × DataW H → Nat
  | (.string bytes, d) => bytes.length + uptoBulk d + 1
  | (_, d) => uptoBulk d + 1
 end
def uptoSmall : (H : Type) → List (DataW H) → Bool := fun _ ds => decide (uptoBulkAll ds ≤ 1048576)
def OpenSpec.upto (s : _root_.Go.ChangeSpec) : _root_.Go.OpenSpec := { _root_.Go.OpenSpec.ofChange s with cond := some uptoSmall }

/-- 'guidevanelaw07.SequenceWays', WHERE WHAT IT READS IS OF BULK AT MOST 1048576: true; the input reads as it did. -/
def sequenceWaysUptoRow : OpenClaim := { program := "ytflgajlngiojbaadoor", sum := "3383fe7d246e2e298c50a6b9ec51ae5510237c0657cb6e90f6ff1466a4d76cf7", func := "guidevane/guidevanelaw07.SequenceWays", spec := "sequenceWays", unfollowed := true, recurses := true, named := ["guidevane/sequence.noFault"], plainKeys := false, apart := false, laid := [("guidevane/sequence.noFault", laid_guidevane_sequence_noFault)], narrowed := true }
def SequenceWaysUptoSaid : Prop := sequenceWaysUptoRow.holds Tryd.pinned (OpenSpec.upto sequenceWaysSpec)

/-- 'guidevanelaw07.SequenceVotes', WHERE WHAT IT READS IS OF BULK AT MOST 1048576: true; the input reads as it did. -/
def sequenceVotesUptoRow : OpenClaim := { program := "ytflgajlngiojbaadoor", sum := "3383fe7d246e2e298c50a6b9ec51ae5510237c0657cb6e90f6ff1466a4d76cf7", func := "guidevane/guidevanelaw07.SequenceVotes", spec := "sequenceVotes", unfollowed := true, recurses := true, named := ["guidevane/sequence.noFault"], plainKeys := false, apart := false, laid := [("guidevane/sequence.noFault", laid_guidevane_sequence_noFault)], narrowed := true }
def SequenceVotesUptoSaid : Prop := sequenceVotesUptoRow.holds Tryd.pinned (OpenSpec.upto sequenceVotesSpec)

/-- 'guidevanelaw07.SequenceHomes', WHERE WHAT IT READS IS OF BULK AT MOST 1048576: true; the input reads as it did. -/
def sequenceHomesUptoRow : OpenClaim := { program := "ytflgajlngiojbaadoor", sum := "3383fe7d246e2e298c50a6b9ec51ae5510237c0657cb6e90f6ff1466a4d76cf7", func := "guidevane/guidevanelaw07.SequenceHomes", spec := "sequenceHomes", unfollowed := true, recurses := true, named := ["guidevane/sequence.noFault"], plainKeys := false, apart := false, laid := [("guidevane/sequence.noFault", laid_guidevane_sequence_noFault)], narrowed := true }
def SequenceHomesUptoSaid : Prop := sequenceHomesUptoRow.holds Tryd.pinned (OpenSpec.upto sequenceHomesSpec)

/-- 'guidevanelaw07.SequenceHalls', WHERE WHAT IT READS IS OF BULK AT MOST 1048576: true; the input reads as it did. -/
def sequenceHallsUptoRow : OpenClaim := { program := "ytflgajlngiojbaadoor", sum := "3383fe7d246e2e298c50a6b9ec51ae5510237c0657cb6e90f6ff1466a4d76cf7", func := "guidevane/guidevanelaw07.SequenceHalls", spec := "sequenceHalls", unfollowed := true, recurses := true, named := ["guidevane/sequence.noFault"], plainKeys := false, apart := false, laid := [("guidevane/sequence.noFault", laid_guidevane_sequence_noFault)], narrowed := true }
def SequenceHallsUptoSaid : Prop := sequenceHallsUptoRow.holds Tryd.pinned (OpenSpec.upto sequenceHallsSpec)

/-- 'guidevanelaw07.SequenceLocked', WHERE WHAT IT READS IS OF BULK AT MOST 1048576: true; the input reads as it did. -/
def sequenceLockedUptoRow : OpenClaim := { program := "ytflgajlngiojbaadoor", sum := "3383fe7d246e2e298c50a6b9ec51ae5510237c0657cb6e90f6ff1466a4d76cf7", func := "guidevane/guidevanelaw07.SequenceLocked", spec := "sequenceLocked", unfollowed := true, recurses := true, named := ["guidevane/sequence.noFault"], plainKeys := false, apart := false, laid := [("guidevane/sequence.noFault", laid_guidevane_sequence_noFault)], narrowed := true }
def SequenceLockedUptoSaid : Prop := sequenceLockedUptoRow.holds Tryd.pinned (OpenSpec.upto sequenceLockedSpec)

/-- 'guidevanelaw07.SequenceTurns', WHERE WHAT IT READS IS OF BULK AT MOST 1048576: true; the input reads as it did. -/
def sequenceTurnsUptoRow : OpenClaim := { program := "ytflgajlngiojbaadoor", sum := "3383fe7d246e2e298c50a6b9ec51ae5510237c0657cb6e90f6ff1466a4d76cf7", func := "guidevane/guidevanelaw07.SequenceTurns", spec := "sequenceTurns", unfollowed := true, recurses := true, named := ["guidevane/sequence.noFault"], plainKeys := false, apart := false, laid := [("guidevane/sequence.noFault", laid_guidevane_sequence_noFault)], narrowed := true }
def SequenceTurnsUptoSaid : Prop := sequenceTurnsUptoRow.holds Tryd.pinned (OpenSpec.upto sequenceTurnsSpec)

/-- 'guidevanelaw07.SequenceRuns', WHERE WHAT IT READS IS OF BULK AT MOST 1048576: true; the input reads as it did. -/
def sequenceRunsUptoRow : OpenClaim := { program := "ytflgajlngiojbaadoor", sum := "3383fe7d246e2e298c50a6b9ec51ae5510237c0657cb6e90f6ff1466a4d76cf7", func := "guidevane/guidevanelaw07.SequenceRuns", spec := "sequenceRuns", unfollowed := true, recurses := true, named := ["guidevane/sequence.noFault"], plainKeys := false, apart := false, laid := [("guidevane/sequence.noFault", laid_guidevane_sequence_noFault)], narrowed := true }
def SequenceRunsUptoSaid : Prop := sequenceRunsUptoRow.holds Tryd.pinned (OpenSpec.upto sequenceRunsSpec)

/-- 'guidevanelaw07.SequenceNoFaster', WHERE WHAT IT READS IS OF BULK AT MOST 1048576: true; the input reads as it did. -/
def sequenceNoFasterUptoRow : OpenClaim := { program := "ytflgajlngiojbaadoor", sum := "3383fe7d246e2e298c50a6b9ec51ae5510237c0657cb6e90f6ff1466a4d76cf7", func := "guidevane/guidevanelaw07.SequenceNoFaster", spec := "sequenceNoFaster", unfollowed := true, recurses := true, named := ["guidevane/sequence.noFault"], plainKeys := false, apart := false, laid := [("guidevane/sequence.noFault", laid_guidevane_sequence_noFault)], narrowed := true }
def SequenceNoFasterUptoSaid : Prop := sequenceNoFasterUptoRow.holds Tryd.pinned (OpenSpec.upto sequenceNoFasterSpec)

/-- 'guidevanelaw07.SequencePlans', WHERE WHAT IT READS IS OF BULK AT MOST 1048576: true; the input reads as it did. -/
def sequencePlansUptoRow : OpenClaim := { program := "ytflgajlngiojbaadoor", sum := "3383fe7d246e2e298c50a6b9ec51ae5510237c0657cb6e90f6ff1466a4d76cf7", func := "guidevane/guidevanelaw07.SequencePlans", spec := "sequencePlans", unfollowed := true, recurses := true, named := ["guidevane/sequence.noFault"], plainKeys := false, apart := false, laid := [("guidevane/sequence.noFault", laid_guidevane_sequence_noFault)], narrowed := true }
def SequencePlansUptoSaid : Prop := sequencePlansUptoRow.holds Tryd.pinned (OpenSpec.upto sequencePlansSpec)

/-- 'guidevanelaw07.SequenceProofs', WHERE WHAT IT READS IS OF BULK AT MOST 1048576: true; the input reads as it did. -/
def sequenceProofsUptoRow : OpenClaim := { program := "ytflgajlngiojbaadoor", sum := "3383fe7d246e2e298c50a6b9ec51ae5510237c0657cb6e90f6ff1466a4d76cf7", func := "guidevane/guidevanelaw07.SequenceProofs", spec := "sequenceProofs", unfollowed := true, recurses := true, named := ["guidevane/sequence.noFault"], plainKeys := false, apart := false, laid := [("guidevane/sequence.noFault", laid_guidevane_sequence_noFault)], narrowed := true }
def SequenceProofsUptoSaid : Prop := sequenceProofsUptoRow.holds Tryd.pinned (OpenSpec.upto sequenceProofsSpec)

end Rows
end Go.Proofs.YtflgajlngiojbaaDoor
