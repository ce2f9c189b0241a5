/-
  DERIVED. GIVEN WITH THE SEED: THE CARDS: each row of YtopejlachgompaaGreatDoorRows.lean that lists a variable, with what it lists TIED to the program's text (the seventh form; the later family's looks); each row that meets fmt, with fmt's text TOLD by the authors' own Lean function (tested against real Go, not proved from fmt's source: count such statements apart). THE CARD IS WHAT COUNTS. Prove the row's statement (the work); the ties are given (YtopejlachgompaaGreatDoorTie.lean); close each card by the builder's one call (the guide's Derived/Test/ToyasCard.lean, 'card_holds'). Laid BY PROGRAM, IN A SANDBOX (cutbox-door.mjs). By AI agents, Wed Nov 11 2026. No macro, syntax, notation, axiom, sorry.
-/
import Derived.Test.YtopejlachgompaaGreatDoorRows
import GoSem.ClaimSeven
namespace Go.Proofs.YtopejlachgompaaGreatDoor
namespace Rows

/-- THE TIED CARD OF 'pursebearerlaw16.SnapDiffs'. -/
def snapDiffsCard : Claim7 := { stood := { row := snapDiffsRow, standIns := [], harness := (true, "81847a87004bf95fe5b731a1381eef09a94bc465fdede292e83aab627da2d1ea"), looks := false }, kinds := [], alts := [], laidByText := true, laidKinds := [.data, .pinned], laidTests := true, laidLooks := .later }
def SnapDiffsCardSaid : Prop := Claim7.holds Tryz.pinned (.plain (OpenSpec.ofChange snapDiffsSpec)) snapDiffsCard

/-- THE TIED CARD OF 'pursebearerlaw16.SnapEnds'. -/
def snapEndsCard : Claim7 := { stood := { row := snapEndsRow, standIns := [], harness := (true, "81847a87004bf95fe5b731a1381eef09a94bc465fdede292e83aab627da2d1ea"), looks := false }, kinds := [], alts := [], laidByText := true, laidKinds := [.data, .pinned], laidTests := true, laidLooks := .later }
def SnapEndsCardSaid : Prop := Claim7.holds Tryz.pinned (.plain (OpenSpec.ofChange snapEndsSpec)) snapEndsCard

/-- THE TIED CARD OF 'pursebearerlaw16.SnapRoutes'. -/
def snapRoutesCard : Claim7 := { stood := { row := snapRoutesRow, standIns := [], harness := (true, "81847a87004bf95fe5b731a1381eef09a94bc465fdede292e83aab627da2d1ea"), looks := false }, kinds := [], alts := [], laidByText := true, laidKinds := [.data, .pinned], laidTests := true, laidLooks := .later }
def SnapRoutesCardSaid : Prop := Claim7.holds Tryz.pinned (.plain (OpenSpec.ofChange snapRoutesSpec)) snapRoutesCard

/-- THE SECOND FORM's CARD OF 'pursebearerlaw16.SnapDiffs'. -/
def snapDiffsUptoCard : Claim7 := { stood := { row := snapDiffsUptoRow, standIns := [], harness := (true, "81847a87004bf95fe5b731a1381eef09a94bc465fdede292e83aab627da2d1ea"), looks := false }, kinds := [], alts := [], laidByText := true, laidKinds := [.data, .pinned], laidTests := true, laidLooks := .later }
def SnapDiffsUptoCardSaid : Prop := Claim7.holds Tryz.pinned (.plain (OpenSpec.upto snapDiffsSpec)) snapDiffsUptoCard

/-- THE SECOND FORM's CARD OF 'pursebearerlaw16.SnapEnds'. -/
def snapEndsUptoCard : Claim7 := { stood := { row := snapEndsUptoRow, standIns := [], harness := (true, "81847a87004bf95fe5b731a1381eef09a94bc465fdede292e83aab627da2d1ea"), looks := false }, kinds := [], alts := [], laidByText := true, laidKinds := [.data, .pinned], laidTests := true, laidLooks := .later }
def SnapEndsUptoCardSaid : Prop := Claim7.holds Tryz.pinned (.plain (OpenSpec.upto snapEndsSpec)) snapEndsUptoCard

/-- THE SECOND FORM's CARD OF 'pursebearerlaw16.SnapRoutes'. -/
def snapRoutesUptoCard : Claim7 := { stood := { row := snapRoutesUptoRow, standIns := [], harness := (true, "81847a87004bf95fe5b731a1381eef09a94bc465fdede292e83aab627da2d1ea"), looks := false }, kinds := [], alts := [], laidByText := true, laidKinds := [.data, .pinned], laidTests := true, laidLooks := .later }
def SnapRoutesUptoCardSaid : Prop := Claim7.holds Tryz.pinned (.plain (OpenSpec.upto snapRoutesSpec)) snapRoutesUptoCard
end Rows
end Go.Proofs.YtopejlachgompaaGreatDoor
