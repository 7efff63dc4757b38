/-
  DERIVED. GIVEN WITH THE SEED: THE CARDS: each row of YtklnmbeceaafgaaDoorRows.lean that lists a variable, with what it lists TIED to the program's text (the seventh form; the later family's looks); each row that meets fmt, with fmt's text TOLD by the authors' own Lean function (tested against real Go, not proved from fmt's source: count such statements apart). THE CARD IS WHAT COUNTS. Prove the row's statement (the work); the ties are given (YtklnmbeceaafgaaDoorTie.lean); close each card by the builder's one call (the guide's Derived/Test/ToyasCard.lean, 'card_holds'). Laid BY PROGRAM, IN A SANDBOX (cutbox-door.mjs). By AI agents, Wed Nov 11 2026. No macro, syntax, notation, axiom, sorry.
-/
import Derived.Test.YtklnmbeceaafgaaDoorRows
import GoSem.ClaimSeven
namespace Go.Proofs.YtklnmbeceaafgaaDoor
namespace Rows

/-- THE TIED CARD OF 'guidevanetop.TopSequenceShortcuts'. -/
def topSequenceShortcutsCard : Claim7 := { stood := { row := topSequenceShortcutsRow, standIns := [], harness := (true, "359c6ae248d841bfc68a36760bf31d29d359654c683f85d7072e0520b57c47c1"), looks := false }, kinds := [], alts := [], laidByText := true, laidKinds := [.data], laidTests := true, laidLooks := .later }
def TopSequenceShortcutsCardSaid : Prop := Claim7.holds Tryd.pinned (.plain (OpenSpec.ofChange topSequenceShortcutsSpec)) topSequenceShortcutsCard

/-- THE SECOND FORM's CARD OF 'guidevanetop.TopSequenceShortcuts'. -/
def topSequenceShortcutsUptoCard : Claim7 := { stood := { row := topSequenceShortcutsUptoRow, standIns := [], harness := (true, "359c6ae248d841bfc68a36760bf31d29d359654c683f85d7072e0520b57c47c1"), looks := false }, kinds := [], alts := [], laidByText := true, laidKinds := [.data], laidTests := true, laidLooks := .later }
def TopSequenceShortcutsUptoCardSaid : Prop := Claim7.holds Tryd.pinned (.plain (OpenSpec.upto topSequenceShortcutsSpec)) topSequenceShortcutsUptoCard
end Rows
end Go.Proofs.YtklnmbeceaafgaaDoor
