/-
  DERIVED. GIVEN WITH THE SEED: THE CARDS: each row of YtadidnljgmlaoaaGreatDoorRows.lean that lists a variable, with what it lists TIED to the program's text (the seventh form; the later family's looks); each row that meets fmt, with fmt's text TOLD by the authors' own Lean function (tested against real Go, not proved from fmt's source: count such statements apart). THE CARD IS WHAT COUNTS. Prove the row's statement (the work); the ties are given (YtadidnljgmlaoaaGreatDoorTie.lean); close each card by the builder's one call (the guide's Derived/Test/ToyasCard.lean, 'card_holds'). Laid BY PROGRAM, IN A SANDBOX (cutbox-door.mjs). By AI agents, Wed Nov 11 2026. No macro, syntax, notation, axiom, sorry.
-/
import Derived.Test.YtadidnljgmlaoaaGreatDoorRows
import GoSem.ClaimSeven
namespace Go.Proofs.YtadidnljgmlaoaaGreatDoor
namespace Rows

/-- THE TIED CARD OF 'guidevanelaw06.GovernorStrings'. -/
def governorStringsCard : Claim7 := { stood := { row := governorStringsRow, standIns := [], harness := (true, "6df490167f394c778c6063103f1f44afc45b554db95f581e13057c0050f1a6c1"), looks := true }, kinds := [], alts := [], laidByText := true, laidKinds := [.data, .data, .data, .data, .sentinel, .sentinel, .pinned], laidTests := true, laidLooks := .later }
def GovernorStringsCardSaid : Prop := Claim7.holds Tryz.pinned (.plain (OpenSpec.ofChange governorStringsSpec)) governorStringsCard

/-- THE SECOND FORM's CARD OF 'guidevanelaw06.GovernorStrings'. -/
def governorStringsUptoCard : Claim7 := { stood := { row := governorStringsUptoRow, standIns := [], harness := (true, "6df490167f394c778c6063103f1f44afc45b554db95f581e13057c0050f1a6c1"), looks := true }, kinds := [], alts := [], laidByText := true, laidKinds := [.data, .data, .data, .data, .sentinel, .sentinel, .pinned], laidTests := true, laidLooks := .later }
def GovernorStringsUptoCardSaid : Prop := Claim7.holds Tryz.pinned (.plain (OpenSpec.upto governorStringsSpec)) governorStringsUptoCard
end Rows
end Go.Proofs.YtadidnljgmlaoaaGreatDoor
