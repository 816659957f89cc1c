/-
  DERIVED. GIVEN WITH THE SEED: THE CARDS: each row of YtgockfjhokocbaaGreatDoorRows.lean that lists a variable, with what it lists TIED to the program's text (the seventh form; the later family's looks); each row that meets fmt, with fmt's text TOLD by the authors' own Lean function (tested against real Go, not proved from fmt's source: count such statements apart). THE CARD IS WHAT COUNTS. Prove the row's statement (the work); the ties are given (YtgockfjhokocbaaGreatDoorTie.lean); close each card by the builder's one call (the guide's Derived/Test/ToyasCard.lean, 'card_holds'). Laid BY PROGRAM, IN A SANDBOX (cutbox-door.mjs). By AI agents, Wed Nov 11 2026. No macro, syntax, notation, axiom, sorry.
-/
import Derived.Test.YtgockfjhokocbaaGreatDoorRows
import GoSem.ClaimSeven
namespace Go.Proofs.YtgockfjhokocbaaGreatDoor
namespace Rows

/-- THE TIED CARD OF 'jottertop.TopLinkOnce'. -/
def topLinkOnceCard : Claim7 := { stood := { row := topLinkOnceRow, standIns := [], harness := (true, "ce1f413cecb596c88f778a06aeca734b77f7529e1ba02978a54646365efad789"), looks := true }, kinds := [], alts := [], laidByText := true, laidKinds := [.handle, .data, .data, .widerDeep], laidTests := true, laidLooks := .later }
def TopLinkOnceCardSaid : Prop := Claim7.holds Tryz.pinned (.plain (OpenSpec.ofChange topLinkOnceSpec)) topLinkOnceCard

/-- THE SECOND FORM's CARD OF 'jottertop.TopLinkOnce'. -/
def topLinkOnceUptoCard : Claim7 := { stood := { row := topLinkOnceUptoRow, standIns := [], harness := (true, "ce1f413cecb596c88f778a06aeca734b77f7529e1ba02978a54646365efad789"), looks := true }, kinds := [], alts := [], laidByText := true, laidKinds := [.handle, .data, .data, .widerDeep], laidTests := true, laidLooks := .later }
def TopLinkOnceUptoCardSaid : Prop := Claim7.holds Tryz.pinned (.plain (OpenSpec.upto topLinkOnceSpec)) topLinkOnceUptoCard
end Rows
end Go.Proofs.YtgockfjhokocbaaGreatDoor
