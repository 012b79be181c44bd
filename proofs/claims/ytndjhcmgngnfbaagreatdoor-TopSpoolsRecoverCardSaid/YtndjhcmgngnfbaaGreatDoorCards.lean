/-
  DERIVED. GIVEN WITH THE SEED: THE CARDS: each row of YtndjhcmgngnfbaaGreatDoorRows.lean that lists a variable, with what it lists TIED to the program's text (the seventh form; the later family's looks); each row that meets fmt, with fmt's text TOLD by the authors' own Lean function (tested against real Go, not proved from fmt's source: count such statements apart). THE CARD IS WHAT COUNTS. Prove the row's statement (the work); the ties are given (YtndjhcmgngnfbaaGreatDoorTie.lean); close each card by the builder's one call (the guide's Derived/Test/ToyasCard.lean, 'card_holds'). Laid BY PROGRAM, IN A SANDBOX (cutbox-door.mjs). By AI agents, Wed Nov 11 2026. No macro, syntax, notation, axiom, sorry.
-/
import Derived.Test.YtndjhcmgngnfbaaGreatDoorRows
import GoSem.ClaimSeven
namespace Go.Proofs.YtndjhcmgngnfbaaGreatDoor
namespace Rows

/-- THE TIED CARD OF 'sixdottop.TopSpoolsRecover'. -/
def topSpoolsRecoverCard : Claim7 := { stood := { row := topSpoolsRecoverRow, standIns := [], harness := (true, "6c94c7c9295bee17268e7b275e720ed1a45b54d950d29198c55e39893e6eaed9"), looks := true }, kinds := [], alts := [], laidByText := true, laidKinds := [.data, .data, .data, .data, .data, .data, .data, .data], laidTests := true, laidLooks := .later }
def TopSpoolsRecoverCardSaid : Prop := Claim7.holds Tryz.pinned (.plain (OpenSpec.ofChange topSpoolsRecoverSpec)) topSpoolsRecoverCard

/-- THE SECOND FORM's CARD OF 'sixdottop.TopSpoolsRecover'. -/
def topSpoolsRecoverUptoCard : Claim7 := { stood := { row := topSpoolsRecoverUptoRow, standIns := [], harness := (true, "6c94c7c9295bee17268e7b275e720ed1a45b54d950d29198c55e39893e6eaed9"), looks := true }, kinds := [], alts := [], laidByText := true, laidKinds := [.data, .data, .data, .data, .data, .data, .data, .data], laidTests := true, laidLooks := .later }
def TopSpoolsRecoverUptoCardSaid : Prop := Claim7.holds Tryz.pinned (.plain (OpenSpec.upto topSpoolsRecoverSpec)) topSpoolsRecoverUptoCard
end Rows
end Go.Proofs.YtndjhcmgngnfbaaGreatDoor
