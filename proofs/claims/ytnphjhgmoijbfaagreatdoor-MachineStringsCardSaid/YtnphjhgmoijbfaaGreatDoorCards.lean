/-
  DERIVED. GIVEN WITH THE SEED: THE CARDS: each row of YtnphjhgmoijbfaaGreatDoorRows.lean that lists a variable, with what it lists TIED to the program's text (the seventh form; the later family's looks); each row that meets fmt, with fmt's text TOLD by the authors' own Lean function (tested against real Go, not proved from fmt's source: count such statements apart). THE CARD IS WHAT COUNTS. Prove the row's statement (the work); the ties are given (YtnphjhgmoijbfaaGreatDoorTie.lean); close each card by the builder's one call (the guide's Derived/Test/ToyasCard.lean, 'card_holds'). Laid BY PROGRAM, IN A SANDBOX (cutbox-door.mjs). By AI agents, Wed Nov 11 2026. No macro, syntax, notation, axiom, sorry.
-/
import Derived.Test.YtnphjhgmoijbfaaGreatDoorRows
import GoSem.ClaimSeven
namespace Go.Proofs.YtnphjhgmoijbfaaGreatDoor
namespace Rows

/-- THE TIED CARD OF 'guidevanelaw05.MachineStrings'. -/
def machineStringsCard : Claim7 := { stood := { row := machineStringsRow, standIns := [], harness := (true, "5f95b1d99889e8ac8cbd4dca674c3ea1a300e7c4c80a4ba76703ef454095ff60"), looks := true }, kinds := [], alts := [], laidByText := true, laidKinds := [.data, .data, .data, .data, .sentinel, .sentinel, .pinned], laidTests := true, laidLooks := .later }
def MachineStringsCardSaid : Prop := Claim7.holds Tryz.pinned (.plain (OpenSpec.ofChange machineStringsSpec)) machineStringsCard

/-- THE SECOND FORM's CARD OF 'guidevanelaw05.MachineStrings'. -/
def machineStringsUptoCard : Claim7 := { stood := { row := machineStringsUptoRow, standIns := [], harness := (true, "5f95b1d99889e8ac8cbd4dca674c3ea1a300e7c4c80a4ba76703ef454095ff60"), looks := true }, kinds := [], alts := [], laidByText := true, laidKinds := [.data, .data, .data, .data, .sentinel, .sentinel, .pinned], laidTests := true, laidLooks := .later }
def MachineStringsUptoCardSaid : Prop := Claim7.holds Tryz.pinned (.plain (OpenSpec.upto machineStringsSpec)) machineStringsUptoCard
end Rows
end Go.Proofs.YtnphjhgmoijbfaaGreatDoor
