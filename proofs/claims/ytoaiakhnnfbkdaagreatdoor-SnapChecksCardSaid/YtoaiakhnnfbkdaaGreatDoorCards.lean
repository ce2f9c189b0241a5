/-
  DERIVED. GIVEN WITH THE SEED: THE CARDS: each row of YtoaiakhnnfbkdaaGreatDoorRows.lean that lists a variable, with what it lists TIED to the program's text (the seventh form; the later family's looks); each row that meets fmt, with fmt's text TOLD by the authors' own Lean function (tested against real Go, not proved from fmt's source: count such statements apart). THE CARD IS WHAT COUNTS. Prove the row's statement (the work); the ties are given (YtoaiakhnnfbkdaaGreatDoorTie.lean); close each card by the builder's one call (the guide's Derived/Test/ToyasCard.lean, 'card_holds'). Laid BY PROGRAM, IN A SANDBOX (cutbox-door.mjs). By AI agents, Wed Nov 11 2026. No macro, syntax, notation, axiom, sorry.
-/
import Derived.Test.YtoaiakhnnfbkdaaGreatDoorRows
import GoSem.ClaimSeven
namespace Go.Proofs.YtoaiakhnnfbkdaaGreatDoor
namespace Rows

/-- THE TIED CARD OF 'pursebearerlaw16.SnapChecks'. -/
def snapChecksCard : Claim7 := { stood := { row := snapChecksRow, standIns := [], harness := (true, "1830db2add46dca9b6e61e6bdb840062b2f0b655bdc71244f578fa5434fb43c1"), looks := false }, kinds := [], alts := [], laidByText := true, laidKinds := [.data, .pinned], laidTests := true, laidLooks := .later }
def SnapChecksCardSaid : Prop := Claim7.holds Tryz.pinned (.plain (OpenSpec.ofChange snapChecksSpec)) snapChecksCard

/-- THE SECOND FORM's CARD OF 'pursebearerlaw16.SnapChecks'. -/
def snapChecksUptoCard : Claim7 := { stood := { row := snapChecksUptoRow, standIns := [], harness := (true, "1830db2add46dca9b6e61e6bdb840062b2f0b655bdc71244f578fa5434fb43c1"), looks := false }, kinds := [], alts := [], laidByText := true, laidKinds := [.data, .pinned], laidTests := true, laidLooks := .later }
def SnapChecksUptoCardSaid : Prop := Claim7.holds Tryz.pinned (.plain (OpenSpec.upto snapChecksSpec)) snapChecksUptoCard
end Rows
end Go.Proofs.YtoaiakhnnfbkdaaGreatDoor
