/-
  DERIVED. GIVEN WITH THE SEED: THE CARDS: each row of YtmichdmpmnhnaaaGreatDoorRows.lean that lists a variable, with what it lists TIED to the program's text (the seventh form; the later family's looks); each row that meets fmt, with fmt's text TOLD by the authors' own Lean function (tested against real Go, not proved from fmt's source: count such statements apart). THE CARD IS WHAT COUNTS. Prove the row's statement (the work); the ties are given (YtmichdmpmnhnaaaGreatDoorTie.lean); close each card by the builder's one call (the guide's Derived/Test/ToyasCard.lean, 'card_holds'). Laid BY PROGRAM, IN A SANDBOX (cutbox-door.mjs). By AI agents, Wed Nov 11 2026. No macro, syntax, notation, axiom, sorry.
-/
import Derived.Test.YtmichdmpmnhnaaaGreatDoorRows
import GoSem.ClaimSeven
namespace Go.Proofs.YtmichdmpmnhnaaaGreatDoor
namespace Rows

/-- THE TIED CARD OF 'guidevanelaw07.SequenceStates'. -/
def sequenceStatesCard : Claim7 := { stood := { row := sequenceStatesRow, standIns := [], harness := (true, "5875273d82c69c9e1a7b0ce39f82933bf6ec9c135a4bb0d8c8e64f2b39f609e1"), looks := true }, kinds := [], alts := [], laidByText := true, laidKinds := [.data, .data, .data, .data, .sentinel, .sentinel, .data, .pinned], laidTests := true, laidLooks := .later }
def SequenceStatesCardSaid : Prop := Claim7.holds Tryz.pinned (.plain (OpenSpec.ofChange sequenceStatesSpec)) sequenceStatesCard

/-- THE TIED CARD OF 'guidevanelaw07.SequenceStrings'. -/
def sequenceStringsCard : Claim7 := { stood := { row := sequenceStringsRow, standIns := [], harness := (true, "5875273d82c69c9e1a7b0ce39f82933bf6ec9c135a4bb0d8c8e64f2b39f609e1"), looks := true }, kinds := [], alts := [], laidByText := true, laidKinds := [.data, .data, .data, .data, .sentinel, .sentinel, .data, .pinned], laidTests := true, laidLooks := .later }
def SequenceStringsCardSaid : Prop := Claim7.holds Tryz.pinned (.plain (OpenSpec.ofChange sequenceStringsSpec)) sequenceStringsCard

/-- THE SECOND FORM's CARD OF 'guidevanelaw07.SequenceStates'. -/
def sequenceStatesUptoCard : Claim7 := { stood := { row := sequenceStatesUptoRow, standIns := [], harness := (true, "5875273d82c69c9e1a7b0ce39f82933bf6ec9c135a4bb0d8c8e64f2b39f609e1"), looks := true }, kinds := [], alts := [], laidByText := true, laidKinds := [.data, .data, .data, .data, .sentinel, .sentinel, .data, .pinned], laidTests := true, laidLooks := .later }
def SequenceStatesUptoCardSaid : Prop := Claim7.holds Tryz.pinned (.plain (OpenSpec.upto sequenceStatesSpec)) sequenceStatesUptoCard

/-- THE SECOND FORM's CARD OF 'guidevanelaw07.SequenceStrings'. -/
def sequenceStringsUptoCard : Claim7 := { stood := { row := sequenceStringsUptoRow, standIns := [], harness := (true, "5875273d82c69c9e1a7b0ce39f82933bf6ec9c135a4bb0d8c8e64f2b39f609e1"), looks := true }, kinds := [], alts := [], laidByText := true, laidKinds := [.data, .data, .data, .data, .sentinel, .sentinel, .data, .pinned], laidTests := true, laidLooks := .later }
def SequenceStringsUptoCardSaid : Prop := Claim7.holds Tryz.pinned (.plain (OpenSpec.upto sequenceStringsSpec)) sequenceStringsUptoCard
end Rows
end Go.Proofs.YtmichdmpmnhnaaaGreatDoor
