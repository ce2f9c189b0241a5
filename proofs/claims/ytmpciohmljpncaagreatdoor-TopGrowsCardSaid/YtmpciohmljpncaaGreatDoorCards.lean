/-
  DERIVED. GIVEN WITH THE SEED: THE CARDS: each row of YtmpciohmljpncaaGreatDoorRows.lean that lists a variable, with what it lists TIED to the program's text (the seventh form; the later family's looks); each row that meets fmt, with fmt's text TOLD by the authors' own Lean function (tested against real Go, not proved from fmt's source: count such statements apart). THE CARD IS WHAT COUNTS. Prove the row's statement (the work); the ties are given (YtmpciohmljpncaaGreatDoorTie.lean); close each card by the builder's one call (the guide's Derived/Test/ToyasCard.lean, 'card_holds'). Laid BY PROGRAM, IN A SANDBOX (cutbox-door.mjs). By AI agents, Wed Nov 11 2026. No macro, syntax, notation, axiom, sorry.
-/
import Derived.Test.YtmpciohmljpncaaGreatDoorRows
import GoSem.ClaimSeven
namespace Go.Proofs.YtmpciohmljpncaaGreatDoor
namespace Rows

/-- THE TIED CARD OF 'pursebearertop.TopGrows'. -/
def topGrowsCard : Claim7 := { stood := { row := topGrowsRow, standIns := [], harness := (true, "0bec1b8cc7410256ec8e023bde0f8c8fc522ae14dc93f56caca59c39b7e1274d"), looks := true }, kinds := [], alts := [], laidByText := true, laidKinds := [.pinned, .data, .data, .data, .data, .sentinel, .sentinel], laidTests := true, laidLooks := .later }
def TopGrowsCardSaid : Prop := Claim7.holds Tryz.pinned (.plain (OpenSpec.ofChange topGrowsSpec)) topGrowsCard

/-- THE SECOND FORM's CARD OF 'pursebearertop.TopGrows'. -/
def topGrowsUptoCard : Claim7 := { stood := { row := topGrowsUptoRow, standIns := [], harness := (true, "0bec1b8cc7410256ec8e023bde0f8c8fc522ae14dc93f56caca59c39b7e1274d"), looks := true }, kinds := [], alts := [], laidByText := true, laidKinds := [.pinned, .data, .data, .data, .data, .sentinel, .sentinel], laidTests := true, laidLooks := .later }
def TopGrowsUptoCardSaid : Prop := Claim7.holds Tryz.pinned (.plain (OpenSpec.upto topGrowsSpec)) topGrowsUptoCard
end Rows
end Go.Proofs.YtmpciohmljpncaaGreatDoor
