/-
  NARROWER THAN 'FOR EVERY INPUT', by the rows' own cells (each row's printed sentence says how): SequenceReached: laid · SequenceTraps: laid · SequenceSafe: laid.
  DERIVED. THE GIVEN ROWS OF THIS SEAT. 3 by the template 'for every input the law returns true; each argument reads behind the call as it read before'; 0 by the template 'total and deterministic' (their statements: YtinfmponjglalaaGreatDoorTotals.lean).
  GIVEN WITH THE SEED: the statements are not yours to turn. If you find one false, say at which input.
  Laid BY PROGRAM, IN A SANDBOX (cutbox-rows.mjs): the forced cells as the released guide's own fill.sh prints them over the translation 5fdad13059e224d0… (all of the seat's roots in one cut). By AI agents, Wed Nov 11 2026. No macro, syntax, notation, axiom, sorry.
-/
import Derived.Test.YtinfmponjglalaaGreatDoorChecked
import GoSem.Claim
import GoSem.ClaimJoined
import GoSem.ClaimMapViews
import Derived.JoinedTies
import Derived.KernelRfl
namespace Go.Proofs.YtinfmponjglalaaGreatDoor
/- THE CELL 'sum', in the pinned program and in every row, IS THE sha256 OF THE DUMP (.gsa) THAT YtinfmponjglalaaGreatDoorProg.lean LOADS. Nothing in Lean hashes anything: it is a label: what it is worth is what the hold of that sum in a sandbox is worth. -/
noncomputable def Tryz.pinned : Pinned := { name := "ytinfmponjglalaagreatdoor", sum := "5fdad13059e224d0e33d2ed6b1e860bd0626077b7d67ee559f9b5cc89369e2a5", checked := Tryz.checked }
namespace Rows
def none {H : Type} : Left H := { results := [], args := [] }

/- WHAT THE LISTED PACKAGE-LEVEL VARIABLES READ AS WHEN THE CALL BEGINS. Each datum BY PROGRAM (the guide's laid-datum.mjs) off the statement by which the dump's own 'gosem.cut.vars' lays the variable. In a bare row this is a premise. The card (YtinfmponjglalaaGreatDoorCards.lean) ties it to the program's text. -/
def laid_guidevane_sequence_noFault {H : Type} : DataW H := .agg [.lit (.int .i64 (-1)), .lit (.bool false)]

/-- 'guidevanelaw07.SequenceReached': WHATEVER THE INPUT: true; the input reads as it did. -/
def sequenceReachedSpec : ChangeSpec := { name := "sequenceReached", fn := fun _ => fun
  | [d1, d2, d3] => { results := [.lit (.bool true)], args := [d1, d2, d3] }
  | _ => none }
def sequenceReachedRow : OpenClaim := { program := "ytinfmponjglalaagreatdoor", sum := "5fdad13059e224d0e33d2ed6b1e860bd0626077b7d67ee559f9b5cc89369e2a5", func := "guidevane/guidevanelaw07.SequenceReached", spec := "sequenceReached", unfollowed := true, recurses := true, named := ["guidevane/sequence.noFault"], plainKeys := false, apart := false, laid := [("guidevane/sequence.noFault", laid_guidevane_sequence_noFault)] }
def SequenceReachedSaid : Prop := sequenceReachedRow.holds Tryz.pinned (OpenSpec.ofChange sequenceReachedSpec)

/-- ITS FALSE NEIGHBOUR: 'it returns false'. Refute it at one input. -/
def sequenceReachedWrong : ChangeSpec := { name := "sequenceReached", fn := fun _ => fun
  | [d1, d2, d3] => { results := [.lit (.bool false)], args := [d1, d2, d3] }
  | _ => none }
def SequenceReachedWrongFalsely : Prop := sequenceReachedRow.holds Tryz.pinned (OpenSpec.ofChange sequenceReachedWrong)

/-- 'guidevanelaw07.SequenceTraps': WHATEVER THE INPUT: true; the input reads as it did. -/
def sequenceTrapsSpec : ChangeSpec := { name := "sequenceTraps", fn := fun _ => fun
  | [d] => { results := [.lit (.bool true)], args := [d] }
  | _ => none }
def sequenceTrapsRow : OpenClaim := { program := "ytinfmponjglalaagreatdoor", sum := "5fdad13059e224d0e33d2ed6b1e860bd0626077b7d67ee559f9b5cc89369e2a5", func := "guidevane/guidevanelaw07.SequenceTraps", spec := "sequenceTraps", unfollowed := true, recurses := true, named := ["guidevane/sequence.noFault"], plainKeys := false, apart := false, laid := [("guidevane/sequence.noFault", laid_guidevane_sequence_noFault)] }
def SequenceTrapsSaid : Prop := sequenceTrapsRow.holds Tryz.pinned (OpenSpec.ofChange sequenceTrapsSpec)

/-- ITS FALSE NEIGHBOUR: 'it returns false'. Refute it at one input. -/
def sequenceTrapsWrong : ChangeSpec := { name := "sequenceTraps", fn := fun _ => fun
  | [d] => { results := [.lit (.bool false)], args := [d] }
  | _ => none }
def SequenceTrapsWrongFalsely : Prop := sequenceTrapsRow.holds Tryz.pinned (OpenSpec.ofChange sequenceTrapsWrong)

/-- 'guidevanelaw07.SequenceSafe': WHATEVER THE INPUT: true; the input reads as it did. -/
def sequenceSafeSpec : ChangeSpec := { name := "sequenceSafe", fn := fun _ => fun
  | [d] => { results := [.lit (.bool true)], args := [d] }
  | _ => none }
def sequenceSafeRow : OpenClaim := { program := "ytinfmponjglalaagreatdoor", sum := "5fdad13059e224d0e33d2ed6b1e860bd0626077b7d67ee559f9b5cc89369e2a5", func := "guidevane/guidevanelaw07.SequenceSafe", spec := "sequenceSafe", unfollowed := true, recurses := true, named := ["guidevane/sequence.noFault"], plainKeys := false, apart := false, laid := [("guidevane/sequence.noFault", laid_guidevane_sequence_noFault)] }
def SequenceSafeSaid : Prop := sequenceSafeRow.holds Tryz.pinned (OpenSpec.ofChange sequenceSafeSpec)

/-- ITS FALSE NEIGHBOUR: 'it returns false'. Refute it at one input. -/
def sequenceSafeWrong : ChangeSpec := { name := "sequenceSafe", fn := fun _ => fun
  | [d] => { results := [.lit (.bool false)], args := [d] }
  | _ => none }
def SequenceSafeWrongFalsely : Prop := sequenceSafeRow.holds Tryz.pinned (OpenSpec.ofChange sequenceSafeWrong)

/- THE SECOND FORM. 'bulk': how many values and letters a reading holds, each counted each time it is reached (what is shared counts as often as it is met; a slice's spare places count too). A statement '..UptoSaid' is the law's where the arguments, and the package variables that the reading takes, are together of bulk at most 1048576: NARROWER than '..Said'. Prove '..Said' where nothing that the law and all that it calls make is longer than what came in: it says more and counts as full. Else prove '..UptoSaid'. A law counts once. -/
mutual
def uptoBulk {H : Type} : DataW H → Nat
  | .lit (.string bytes) => bytes.length + 1
  | .lit _ => 1
  | .nil => 1
  | .ptr d => uptoBulk d + 1
  | .slice elems spare => uptoBulkAll elems + uptoBulkAll spare + 1
  | .agg parts => uptoBulkAll parts + 1
  | .iface _ d => uptoBulk d + 1
  | .map entries => uptoBulkEntries entries + 1
  | .held _ => 1
def uptoBulkAll {H : Type} : List (DataW H) → Nat
  | [] => 0
  | d :: r => uptoBulk d + uptoBulkAll r
def uptoBulkEntries {H : Type} : List (Lit × DataW H) → Nat
  | [] => 0
  | x :: r => uptoBulkEntry x + uptoBulkEntries r
def uptoBulkEntry {H : Type} : Lit × DataW H → Nat
  | (.string bytes, d) => bytes.length + uptoBulk d + 1
  | (_, d) => uptoBulk d + 1
 end
def uptoSmall : (H : Type) → List (DataW H) → Bool := fun _ ds => decide (uptoBulkAll ds ≤ 1048576)
def OpenSpec.upto (s : _root_.Go.ChangeSpec) : _root_.Go.OpenSpec := { _root_.Go.OpenSpec.ofChange s with cond := some uptoSmall }

/-- 'guidevanelaw07.SequenceReached', WHERE WHAT IT READS IS OF BULK AT MOST 1048576: true; the input reads as it did. -/
def sequenceReachedUptoRow : OpenClaim := { program := "ytinfmponjglalaagreatdoor", sum := "5fdad13059e224d0e33d2ed6b1e860bd0626077b7d67ee559f9b5cc89369e2a5", func := "guidevane/guidevanelaw07.SequenceReached", spec := "sequenceReached", unfollowed := true, recurses := true, named := ["guidevane/sequence.noFault"], plainKeys := false, apart := false, laid := [("guidevane/sequence.noFault", laid_guidevane_sequence_noFault)], narrowed := true }
def SequenceReachedUptoSaid : Prop := sequenceReachedUptoRow.holds Tryz.pinned (OpenSpec.upto sequenceReachedSpec)

/-- 'guidevanelaw07.SequenceTraps', WHERE WHAT IT READS IS OF BULK AT MOST 1048576: true; the input reads as it did. -/
def sequenceTrapsUptoRow : OpenClaim := { program := "ytinfmponjglalaagreatdoor", sum := "5fdad13059e224d0e33d2ed6b1e860bd0626077b7d67ee559f9b5cc89369e2a5", func := "guidevane/guidevanelaw07.SequenceTraps", spec := "sequenceTraps", unfollowed := true, recurses := true, named := ["guidevane/sequence.noFault"], plainKeys := false, apart := false, laid := [("guidevane/sequence.noFault", laid_guidevane_sequence_noFault)], narrowed := true }
def SequenceTrapsUptoSaid : Prop := sequenceTrapsUptoRow.holds Tryz.pinned (OpenSpec.upto sequenceTrapsSpec)

/-- 'guidevanelaw07.SequenceSafe', WHERE WHAT IT READS IS OF BULK AT MOST 1048576: true; the input reads as it did. -/
def sequenceSafeUptoRow : OpenClaim := { program := "ytinfmponjglalaagreatdoor", sum := "5fdad13059e224d0e33d2ed6b1e860bd0626077b7d67ee559f9b5cc89369e2a5", func := "guidevane/guidevanelaw07.SequenceSafe", spec := "sequenceSafe", unfollowed := true, recurses := true, named := ["guidevane/sequence.noFault"], plainKeys := false, apart := false, laid := [("guidevane/sequence.noFault", laid_guidevane_sequence_noFault)], narrowed := true }
def SequenceSafeUptoSaid : Prop := sequenceSafeUptoRow.holds Tryz.pinned (OpenSpec.upto sequenceSafeSpec)

end Rows
end Go.Proofs.YtinfmponjglalaaGreatDoor
