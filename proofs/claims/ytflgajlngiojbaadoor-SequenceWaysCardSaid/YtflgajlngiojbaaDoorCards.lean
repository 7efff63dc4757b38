/-
  DERIVED. GIVEN WITH THE SEED: THE CARDS: each row of YtflgajlngiojbaaDoorRows.lean that lists a variable, with what it lists TIED to the program's text (the seventh form; the later family's looks); each row that meets fmt, with fmt's text TOLD by the authors' own Lean function (tested against real Go, not proved from fmt's source: count such statements apart). THE CARD IS WHAT COUNTS. Prove the row's statement (the work); the ties are given (YtflgajlngiojbaaDoorTie.lean); close each card by the builder's one call (the guide's Derived/Test/ToyasCard.lean, 'card_holds'). Laid BY PROGRAM, IN A SANDBOX (cutbox-door.mjs). By AI agents, Wed Nov 11 2026. No macro, syntax, notation, axiom, sorry.
-/
import Derived.Test.YtflgajlngiojbaaDoorRows
import GoSem.ClaimSeven
namespace Go.Proofs.YtflgajlngiojbaaDoor
namespace Rows

/-- THE TIED CARD OF 'guidevanelaw07.SequenceWays'. -/
def sequenceWaysCard : Claim7 := { stood := { row := sequenceWaysRow, standIns := [], harness := (true, "c8adf70f6fdc9276458f448479daa9aefab2696219862ff2602399877dfd6acc"), looks := false }, kinds := [], alts := [], laidByText := true, laidKinds := [.data], laidTests := true, laidLooks := .later }
def SequenceWaysCardSaid : Prop := Claim7.holds Tryd.pinned (.plain (OpenSpec.ofChange sequenceWaysSpec)) sequenceWaysCard

/-- THE TIED CARD OF 'guidevanelaw07.SequenceVotes'. -/
def sequenceVotesCard : Claim7 := { stood := { row := sequenceVotesRow, standIns := [], harness := (true, "c8adf70f6fdc9276458f448479daa9aefab2696219862ff2602399877dfd6acc"), looks := false }, kinds := [], alts := [], laidByText := true, laidKinds := [.data], laidTests := true, laidLooks := .later }
def SequenceVotesCardSaid : Prop := Claim7.holds Tryd.pinned (.plain (OpenSpec.ofChange sequenceVotesSpec)) sequenceVotesCard

/-- THE TIED CARD OF 'guidevanelaw07.SequenceHomes'. -/
def sequenceHomesCard : Claim7 := { stood := { row := sequenceHomesRow, standIns := [], harness := (true, "c8adf70f6fdc9276458f448479daa9aefab2696219862ff2602399877dfd6acc"), looks := false }, kinds := [], alts := [], laidByText := true, laidKinds := [.data], laidTests := true, laidLooks := .later }
def SequenceHomesCardSaid : Prop := Claim7.holds Tryd.pinned (.plain (OpenSpec.ofChange sequenceHomesSpec)) sequenceHomesCard

/-- THE TIED CARD OF 'guidevanelaw07.SequenceHalls'. -/
def sequenceHallsCard : Claim7 := { stood := { row := sequenceHallsRow, standIns := [], harness := (true, "c8adf70f6fdc9276458f448479daa9aefab2696219862ff2602399877dfd6acc"), looks := false }, kinds := [], alts := [], laidByText := true, laidKinds := [.data], laidTests := true, laidLooks := .later }
def SequenceHallsCardSaid : Prop := Claim7.holds Tryd.pinned (.plain (OpenSpec.ofChange sequenceHallsSpec)) sequenceHallsCard

/-- THE TIED CARD OF 'guidevanelaw07.SequenceLocked'. -/
def sequenceLockedCard : Claim7 := { stood := { row := sequenceLockedRow, standIns := [], harness := (true, "c8adf70f6fdc9276458f448479daa9aefab2696219862ff2602399877dfd6acc"), looks := false }, kinds := [], alts := [], laidByText := true, laidKinds := [.data], laidTests := true, laidLooks := .later }
def SequenceLockedCardSaid : Prop := Claim7.holds Tryd.pinned (.plain (OpenSpec.ofChange sequenceLockedSpec)) sequenceLockedCard

/-- THE TIED CARD OF 'guidevanelaw07.SequenceTurns'. -/
def sequenceTurnsCard : Claim7 := { stood := { row := sequenceTurnsRow, standIns := [], harness := (true, "c8adf70f6fdc9276458f448479daa9aefab2696219862ff2602399877dfd6acc"), looks := false }, kinds := [], alts := [], laidByText := true, laidKinds := [.data], laidTests := true, laidLooks := .later }
def SequenceTurnsCardSaid : Prop := Claim7.holds Tryd.pinned (.plain (OpenSpec.ofChange sequenceTurnsSpec)) sequenceTurnsCard

/-- THE TIED CARD OF 'guidevanelaw07.SequenceRuns'. -/
def sequenceRunsCard : Claim7 := { stood := { row := sequenceRunsRow, standIns := [], harness := (true, "c8adf70f6fdc9276458f448479daa9aefab2696219862ff2602399877dfd6acc"), looks := false }, kinds := [], alts := [], laidByText := true, laidKinds := [.data], laidTests := true, laidLooks := .later }
def SequenceRunsCardSaid : Prop := Claim7.holds Tryd.pinned (.plain (OpenSpec.ofChange sequenceRunsSpec)) sequenceRunsCard

/-- THE TIED CARD OF 'guidevanelaw07.SequenceNoFaster'. -/
def sequenceNoFasterCard : Claim7 := { stood := { row := sequenceNoFasterRow, standIns := [], harness := (true, "c8adf70f6fdc9276458f448479daa9aefab2696219862ff2602399877dfd6acc"), looks := false }, kinds := [], alts := [], laidByText := true, laidKinds := [.data], laidTests := true, laidLooks := .later }
def SequenceNoFasterCardSaid : Prop := Claim7.holds Tryd.pinned (.plain (OpenSpec.ofChange sequenceNoFasterSpec)) sequenceNoFasterCard

/-- THE TIED CARD OF 'guidevanelaw07.SequencePlans'. -/
def sequencePlansCard : Claim7 := { stood := { row := sequencePlansRow, standIns := [], harness := (true, "c8adf70f6fdc9276458f448479daa9aefab2696219862ff2602399877dfd6acc"), looks := false }, kinds := [], alts := [], laidByText := true, laidKinds := [.data], laidTests := true, laidLooks := .later }
def SequencePlansCardSaid : Prop := Claim7.holds Tryd.pinned (.plain (OpenSpec.ofChange sequencePlansSpec)) sequencePlansCard

/-- THE TIED CARD OF 'guidevanelaw07.SequenceProofs'. -/
def sequenceProofsCard : Claim7 := { stood := { row := sequenceProofsRow, standIns := [], harness := (true, "c8adf70f6fdc9276458f448479daa9aefab2696219862ff2602399877dfd6acc"), looks := false }, kinds := [], alts := [], laidByText := true, laidKinds := [.data], laidTests := true, laidLooks := .later }
def SequenceProofsCardSaid : Prop := Claim7.holds Tryd.pinned (.plain (OpenSpec.ofChange sequenceProofsSpec)) sequenceProofsCard

/-- THE SECOND FORM's CARD OF 'guidevanelaw07.SequenceWays'. -/
def sequenceWaysUptoCard : Claim7 := { stood := { row := sequenceWaysUptoRow, standIns := [], harness := (true, "c8adf70f6fdc9276458f448479daa9aefab2696219862ff2602399877dfd6acc"), looks := false }, kinds := [], alts := [], laidByText := true, laidKinds := [.data], laidTests := true, laidLooks := .later }
def SequenceWaysUptoCardSaid : Prop := Claim7.holds Tryd.pinned (.plain (OpenSpec.upto sequenceWaysSpec)) sequenceWaysUptoCard

/-- THE SECOND FORM's CARD OF 'guidevanelaw07.SequenceVotes'. -/
def sequenceVotesUptoCard : Claim7 := { stood := { row := sequenceVotesUptoRow, standIns := [], harness := (true, "c8adf70f6fdc9276458f448479daa9aefab2696219862ff2602399877dfd6acc"), looks := false }, kinds := [], alts := [], laidByText := true, laidKinds := [.data], laidTests := true, laidLooks := .later }
def SequenceVotesUptoCardSaid : Prop := Claim7.holds Tryd.pinned (.plain (OpenSpec.upto sequenceVotesSpec)) sequenceVotesUptoCard

/-- THE SECOND FORM's CARD OF 'guidevanelaw07.SequenceHomes'. -/
def sequenceHomesUptoCard : Claim7 := { stood := { row := sequenceHomesUptoRow, standIns := [], harness := (true, "c8adf70f6fdc9276458f448479daa9aefab2696219862ff2602399877dfd6acc"), looks := false }, kinds := [], alts := [], laidByText := true, laidKinds := [.data], laidTests := true, laidLooks := .later }
def SequenceHomesUptoCardSaid : Prop := Claim7.holds Tryd.pinned (.plain (OpenSpec.upto sequenceHomesSpec)) sequenceHomesUptoCard

/-- THE SECOND FORM's CARD OF 'guidevanelaw07.SequenceHalls'. -/
def sequenceHallsUptoCard : Claim7 := { stood := { row := sequenceHallsUptoRow, standIns := [], harness := (true, "c8adf70f6fdc9276458f448479daa9aefab2696219862ff2602399877dfd6acc"), looks := false }, kinds := [], alts := [], laidByText := true, laidKinds := [.data], laidTests := true, laidLooks := .later }
def SequenceHallsUptoCardSaid : Prop := Claim7.holds Tryd.pinned (.plain (OpenSpec.upto sequenceHallsSpec)) sequenceHallsUptoCard

/-- THE SECOND FORM's CARD OF 'guidevanelaw07.SequenceLocked'. -/
def sequenceLockedUptoCard : Claim7 := { stood := { row := sequenceLockedUptoRow, standIns := [], harness := (true, "c8adf70f6fdc9276458f448479daa9aefab2696219862ff2602399877dfd6acc"), looks := false }, kinds := [], alts := [], laidByText := true, laidKinds := [.data], laidTests := true, laidLooks := .later }
def SequenceLockedUptoCardSaid : Prop := Claim7.holds Tryd.pinned (.plain (OpenSpec.upto sequenceLockedSpec)) sequenceLockedUptoCard

/-- THE SECOND FORM's CARD OF 'guidevanelaw07.SequenceTurns'. -/
def sequenceTurnsUptoCard : Claim7 := { stood := { row := sequenceTurnsUptoRow, standIns := [], harness := (true, "c8adf70f6fdc9276458f448479daa9aefab2696219862ff2602399877dfd6acc"), looks := false }, kinds := [], alts := [], laidByText := true, laidKinds := [.data], laidTests := true, laidLooks := .later }
def SequenceTurnsUptoCardSaid : Prop := Claim7.holds Tryd.pinned (.plain (OpenSpec.upto sequenceTurnsSpec)) sequenceTurnsUptoCard

/-- THE SECOND FORM's CARD OF 'guidevanelaw07.SequenceRuns'. -/
def sequenceRunsUptoCard : Claim7 := { stood := { row := sequenceRunsUptoRow, standIns := [], harness := (true, "c8adf70f6fdc9276458f448479daa9aefab2696219862ff2602399877dfd6acc"), looks := false }, kinds := [], alts := [], laidByText := true, laidKinds := [.data], laidTests := true, laidLooks := .later }
def SequenceRunsUptoCardSaid : Prop := Claim7.holds Tryd.pinned (.plain (OpenSpec.upto sequenceRunsSpec)) sequenceRunsUptoCard

/-- THE SECOND FORM's CARD OF 'guidevanelaw07.SequenceNoFaster'. -/
def sequenceNoFasterUptoCard : Claim7 := { stood := { row := sequenceNoFasterUptoRow, standIns := [], harness := (true, "c8adf70f6fdc9276458f448479daa9aefab2696219862ff2602399877dfd6acc"), looks := false }, kinds := [], alts := [], laidByText := true, laidKinds := [.data], laidTests := true, laidLooks := .later }
def SequenceNoFasterUptoCardSaid : Prop := Claim7.holds Tryd.pinned (.plain (OpenSpec.upto sequenceNoFasterSpec)) sequenceNoFasterUptoCard

/-- THE SECOND FORM's CARD OF 'guidevanelaw07.SequencePlans'. -/
def sequencePlansUptoCard : Claim7 := { stood := { row := sequencePlansUptoRow, standIns := [], harness := (true, "c8adf70f6fdc9276458f448479daa9aefab2696219862ff2602399877dfd6acc"), looks := false }, kinds := [], alts := [], laidByText := true, laidKinds := [.data], laidTests := true, laidLooks := .later }
def SequencePlansUptoCardSaid : Prop := Claim7.holds Tryd.pinned (.plain (OpenSpec.upto sequencePlansSpec)) sequencePlansUptoCard

/-- THE SECOND FORM's CARD OF 'guidevanelaw07.SequenceProofs'. -/
def sequenceProofsUptoCard : Claim7 := { stood := { row := sequenceProofsUptoRow, standIns := [], harness := (true, "c8adf70f6fdc9276458f448479daa9aefab2696219862ff2602399877dfd6acc"), looks := false }, kinds := [], alts := [], laidByText := true, laidKinds := [.data], laidTests := true, laidLooks := .later }
def SequenceProofsUptoCardSaid : Prop := Claim7.holds Tryd.pinned (.plain (OpenSpec.upto sequenceProofsSpec)) sequenceProofsUptoCard
end Rows
end Go.Proofs.YtflgajlngiojbaaDoor
