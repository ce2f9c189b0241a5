/-
  DERIVED. GIVEN WITH THE SEED: THE CARDS: each row of YtofjcokclegkhaaGreatDoorRows.lean that lists a variable, with what it lists TIED to the program's text (the seventh form; the later family's looks); each row that meets fmt, with fmt's text TOLD by the authors' own Lean function (tested against real Go, not proved from fmt's source: count such statements apart). THE CARD IS WHAT COUNTS. Prove the row's statement (the work); the ties are given (YtofjcokclegkhaaGreatDoorTie.lean); close each card by the builder's one call (the guide's Derived/Test/ToyasCard.lean, 'card_holds'). Laid BY PROGRAM, IN A SANDBOX (cutbox-door.mjs). By AI agents, Wed Nov 11 2026. No macro, syntax, notation, axiom, sorry.
-/
import Derived.Test.YtofjcokclegkhaaGreatDoorRows
import GoSem.ClaimSeven
namespace Go.Proofs.YtofjcokclegkhaaGreatDoor
namespace Rows

/-- THE TIED CARD OF 'pursebearerlaw16.SnapOwns'. -/
def snapOwnsCard : Claim7 := { stood := { row := snapOwnsRow, standIns := [], harness := (true, "80fc63fddc9926dc86e8636e8a2d1b7850bb2132e7c3dbb307af2ffae3655947"), looks := false }, kinds := [], alts := [], laidByText := true, laidKinds := [.data, .pinned], laidTests := true, laidLooks := .later }
def SnapOwnsCardSaid : Prop := Claim7.holds Tryz.pinned (.plain (OpenSpec.ofChange snapOwnsSpec)) snapOwnsCard

/-- THE TIED CARD OF 'pursebearerlaw16.SnapAsks'. -/
def snapAsksCard : Claim7 := { stood := { row := snapAsksRow, standIns := [], harness := (true, "80fc63fddc9926dc86e8636e8a2d1b7850bb2132e7c3dbb307af2ffae3655947"), looks := false }, kinds := [], alts := [], laidByText := true, laidKinds := [.data, .pinned], laidTests := true, laidLooks := .later }
def SnapAsksCardSaid : Prop := Claim7.holds Tryz.pinned (.plain (OpenSpec.ofChange snapAsksSpec)) snapAsksCard

/-- THE TIED CARD OF 'pursebearerlaw16.SnapRow'. -/
def snapRowCard : Claim7 := { stood := { row := snapRowRow, standIns := [], harness := (true, "80fc63fddc9926dc86e8636e8a2d1b7850bb2132e7c3dbb307af2ffae3655947"), looks := false }, kinds := [], alts := [], laidByText := true, laidKinds := [.data, .pinned], laidTests := true, laidLooks := .later }
def SnapRowCardSaid : Prop := Claim7.holds Tryz.pinned (.plain (OpenSpec.ofChange snapRowSpec)) snapRowCard

/-- THE SECOND FORM's CARD OF 'pursebearerlaw16.SnapOwns'. -/
def snapOwnsUptoCard : Claim7 := { stood := { row := snapOwnsUptoRow, standIns := [], harness := (true, "80fc63fddc9926dc86e8636e8a2d1b7850bb2132e7c3dbb307af2ffae3655947"), looks := false }, kinds := [], alts := [], laidByText := true, laidKinds := [.data, .pinned], laidTests := true, laidLooks := .later }
def SnapOwnsUptoCardSaid : Prop := Claim7.holds Tryz.pinned (.plain (OpenSpec.upto snapOwnsSpec)) snapOwnsUptoCard

/-- THE SECOND FORM's CARD OF 'pursebearerlaw16.SnapAsks'. -/
def snapAsksUptoCard : Claim7 := { stood := { row := snapAsksUptoRow, standIns := [], harness := (true, "80fc63fddc9926dc86e8636e8a2d1b7850bb2132e7c3dbb307af2ffae3655947"), looks := false }, kinds := [], alts := [], laidByText := true, laidKinds := [.data, .pinned], laidTests := true, laidLooks := .later }
def SnapAsksUptoCardSaid : Prop := Claim7.holds Tryz.pinned (.plain (OpenSpec.upto snapAsksSpec)) snapAsksUptoCard

/-- THE SECOND FORM's CARD OF 'pursebearerlaw16.SnapRow'. -/
def snapRowUptoCard : Claim7 := { stood := { row := snapRowUptoRow, standIns := [], harness := (true, "80fc63fddc9926dc86e8636e8a2d1b7850bb2132e7c3dbb307af2ffae3655947"), looks := false }, kinds := [], alts := [], laidByText := true, laidKinds := [.data, .pinned], laidTests := true, laidLooks := .later }
def SnapRowUptoCardSaid : Prop := Claim7.holds Tryz.pinned (.plain (OpenSpec.upto snapRowSpec)) snapRowUptoCard
end Rows
end Go.Proofs.YtofjcokclegkhaaGreatDoor
