/-
  DERIVED. GIVEN WITH THE SEED: THE CARDS: each row of YtdllelamfamfcaaGreatDoorRows.lean that lists a variable, with what it lists TIED to the program's text (the seventh form; the later family's looks); each row that meets fmt, with fmt's text TOLD by the authors' own Lean function (tested against real Go, not proved from fmt's source: count such statements apart). THE CARD IS WHAT COUNTS. Prove the row's statement (the work); the ties are given (YtdllelamfamfcaaGreatDoorTie.lean); close each card by the builder's one call (the guide's Derived/Test/ToyasCard.lean, 'card_holds'). Laid BY PROGRAM, IN A SANDBOX (cutbox-door.mjs). By AI agents, Wed Nov 11 2026. No macro, syntax, notation, axiom, sorry.
-/
import Derived.Test.YtdllelamfamfcaaGreatDoorRows
import GoSem.ClaimSeven
namespace Go.Proofs.YtdllelamfamfcaaGreatDoor
namespace Rows

/-- THE TIED CARD OF 'munimentlaw24.DumpKnown'. -/
def dumpKnownCard : Claim7 := { stood := { row := dumpKnownRow, standIns := [], harness := (true, "97e63336713952381e894df915dd78843c88cc0b958ac78618a13e200645c62c"), looks := true }, kinds := [], alts := [], laidByText := true, laidKinds := [.data, .pinned], laidTests := true, laidLooks := .later }
def DumpKnownCardSaid : Prop := Claim7.holds Tryz.pinned (.plain (OpenSpec.ofChange dumpKnownSpec)) dumpKnownCard

/-- THE SECOND FORM's CARD OF 'munimentlaw24.DumpKnown'. -/
def dumpKnownUptoCard : Claim7 := { stood := { row := dumpKnownUptoRow, standIns := [], harness := (true, "97e63336713952381e894df915dd78843c88cc0b958ac78618a13e200645c62c"), looks := true }, kinds := [], alts := [], laidByText := true, laidKinds := [.data, .pinned], laidTests := true, laidLooks := .later }
def DumpKnownUptoCardSaid : Prop := Claim7.holds Tryz.pinned (.plain (OpenSpec.upto dumpKnownSpec)) dumpKnownUptoCard
end Rows
end Go.Proofs.YtdllelamfamfcaaGreatDoor
