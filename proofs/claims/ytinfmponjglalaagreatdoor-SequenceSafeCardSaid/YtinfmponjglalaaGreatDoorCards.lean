/-
  DERIVED. GIVEN WITH THE SEED: THE CARDS: each row of YtinfmponjglalaaGreatDoorRows.lean that lists a variable, with what it lists TIED to the program's text (the seventh form; the later family's looks); each row that meets fmt, with fmt's text TOLD by the authors' own Lean function (tested against real Go, not proved from fmt's source: count such statements apart). THE CARD IS WHAT COUNTS. Prove the row's statement (the work); the ties are given (YtinfmponjglalaaGreatDoorTie.lean); close each card by the builder's one call (the guide's Derived/Test/ToyasCard.lean, 'card_holds'). Laid BY PROGRAM, IN A SANDBOX (cutbox-door.mjs). By AI agents, Wed Nov 11 2026. No macro, syntax, notation, axiom, sorry.
-/
import Derived.Test.YtinfmponjglalaaGreatDoorRows
import GoSem.ClaimSeven
namespace Go.Proofs.YtinfmponjglalaaGreatDoor
namespace Rows

/-- THE TIED CARD OF 'guidevanelaw07.SequenceReached'. -/
def sequenceReachedCard : Claim7 := { stood := { row := sequenceReachedRow, standIns := [], harness := (true, "de44cf3e7db12b17d7288456417067dfd64e05b44fe056dfa61ef97c43d5d368"), looks := false }, kinds := [], alts := [], laidByText := true, laidKinds := [.data], laidTests := true, laidLooks := .later }
def SequenceReachedCardSaid : Prop := Claim7.holds Tryz.pinned (.plain (OpenSpec.ofChange sequenceReachedSpec)) sequenceReachedCard

/-- THE TIED CARD OF 'guidevanelaw07.SequenceTraps'. -/
def sequenceTrapsCard : Claim7 := { stood := { row := sequenceTrapsRow, standIns := [], harness := (true, "de44cf3e7db12b17d7288456417067dfd64e05b44fe056dfa61ef97c43d5d368"), looks := false }, kinds := [], alts := [], laidByText := true, laidKinds := [.data], laidTests := true, laidLooks := .later }
def SequenceTrapsCardSaid : Prop := Claim7.holds Tryz.pinned (.plain (OpenSpec.ofChange sequenceTrapsSpec)) sequenceTrapsCard

/-- THE TIED CARD OF 'guidevanelaw07.SequenceSafe'. -/
def sequenceSafeCard : Claim7 := { stood := { row := sequenceSafeRow, standIns := [], harness := (true, "de44cf3e7db12b17d7288456417067dfd64e05b44fe056dfa61ef97c43d5d368"), looks := false }, kinds := [], alts := [], laidByText := true, laidKinds := [.data], laidTests := true, laidLooks := .later }
def SequenceSafeCardSaid : Prop := Claim7.holds Tryz.pinned (.plain (OpenSpec.ofChange sequenceSafeSpec)) sequenceSafeCard

/-- THE SECOND FORM's CARD OF 'guidevanelaw07.SequenceReached'. -/
def sequenceReachedUptoCard : Claim7 := { stood := { row := sequenceReachedUptoRow, standIns := [], harness := (true, "de44cf3e7db12b17d7288456417067dfd64e05b44fe056dfa61ef97c43d5d368"), looks := false }, kinds := [], alts := [], laidByText := true, laidKinds := [.data], laidTests := true, laidLooks := .later }
def SequenceReachedUptoCardSaid : Prop := Claim7.holds Tryz.pinned (.plain (OpenSpec.upto sequenceReachedSpec)) sequenceReachedUptoCard

/-- THE SECOND FORM's CARD OF 'guidevanelaw07.SequenceTraps'. -/
def sequenceTrapsUptoCard : Claim7 := { stood := { row := sequenceTrapsUptoRow, standIns := [], harness := (true, "de44cf3e7db12b17d7288456417067dfd64e05b44fe056dfa61ef97c43d5d368"), looks := false }, kinds := [], alts := [], laidByText := true, laidKinds := [.data], laidTests := true, laidLooks := .later }
def SequenceTrapsUptoCardSaid : Prop := Claim7.holds Tryz.pinned (.plain (OpenSpec.upto sequenceTrapsSpec)) sequenceTrapsUptoCard

/-- THE SECOND FORM's CARD OF 'guidevanelaw07.SequenceSafe'. -/
def sequenceSafeUptoCard : Claim7 := { stood := { row := sequenceSafeUptoRow, standIns := [], harness := (true, "de44cf3e7db12b17d7288456417067dfd64e05b44fe056dfa61ef97c43d5d368"), looks := false }, kinds := [], alts := [], laidByText := true, laidKinds := [.data], laidTests := true, laidLooks := .later }
def SequenceSafeUptoCardSaid : Prop := Claim7.holds Tryz.pinned (.plain (OpenSpec.upto sequenceSafeSpec)) sequenceSafeUptoCard
end Rows
end Go.Proofs.YtinfmponjglalaaGreatDoor
