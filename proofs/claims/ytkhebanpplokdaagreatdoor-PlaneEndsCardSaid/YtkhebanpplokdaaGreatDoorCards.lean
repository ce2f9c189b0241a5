/-
  DERIVED. GIVEN WITH THE SEED: THE CARDS: each row of YtkhebanpplokdaaGreatDoorRows.lean that lists a variable, with what it lists TIED to the program's text (the seventh form; the later family's looks); each row that meets fmt, with fmt's text TOLD by the authors' own Lean function (tested against real Go, not proved from fmt's source: count such statements apart). THE CARD IS WHAT COUNTS. Prove the row's statement (the work); the ties are given (YtkhebanpplokdaaGreatDoorTie.lean); close each card by the builder's one call (the guide's Derived/Test/ToyasCard.lean, 'card_holds'). Laid BY PROGRAM, IN A SANDBOX (cutbox-door.mjs). By AI agents, Wed Nov 11 2026. No macro, syntax, notation, axiom, sorry.
-/
import Derived.Test.YtkhebanpplokdaaGreatDoorRows
import GoSem.ClaimSeven
namespace Go.Proofs.YtkhebanpplokdaaGreatDoor
namespace Rows

/-- THE TIED CARD OF 'pursebearerlaw16.SnapChecks'. -/
def snapChecksCard : Claim7 := { stood := { row := snapChecksRow, standIns := [], harness := (true, "2704740e5643cf5fa6067da485e158c478ee98dec8ba6a8bf5c0b8f81d4d23aa"), looks := false }, kinds := [], alts := [], laidByText := true, laidKinds := [.data, .pinned], laidTests := true, laidLooks := .later }
def SnapChecksCardSaid : Prop := Claim7.holds Tryz.pinned (.plain (OpenSpec.ofChange snapChecksSpec)) snapChecksCard

/-- THE TIED CARD OF 'pursebearerlaw17.PlaneFull'. -/
def planeFullCard : Claim7 := { stood := { row := planeFullRow, standIns := [], harness := (true, "2704740e5643cf5fa6067da485e158c478ee98dec8ba6a8bf5c0b8f81d4d23aa"), looks := false }, kinds := [], alts := [], laidByText := true, laidKinds := [.data, .pinned], laidTests := true, laidLooks := .later }
def PlaneFullCardSaid : Prop := Claim7.holds Tryz.pinned (.plain (OpenSpec.ofChange planeFullSpec)) planeFullCard

/-- THE TIED CARD OF 'pursebearerlaw17.PlaneEnds'. -/
def planeEndsCard : Claim7 := { stood := { row := planeEndsRow, standIns := [], harness := (true, "2704740e5643cf5fa6067da485e158c478ee98dec8ba6a8bf5c0b8f81d4d23aa"), looks := false }, kinds := [], alts := [], laidByText := true, laidKinds := [.data, .pinned], laidTests := true, laidLooks := .later }
def PlaneEndsCardSaid : Prop := Claim7.holds Tryz.pinned (.plain (OpenSpec.ofChange planeEndsSpec)) planeEndsCard

/-- THE SECOND FORM's CARD OF 'pursebearerlaw16.SnapChecks'. -/
def snapChecksUptoCard : Claim7 := { stood := { row := snapChecksUptoRow, standIns := [], harness := (true, "2704740e5643cf5fa6067da485e158c478ee98dec8ba6a8bf5c0b8f81d4d23aa"), looks := false }, kinds := [], alts := [], laidByText := true, laidKinds := [.data, .pinned], laidTests := true, laidLooks := .later }
def SnapChecksUptoCardSaid : Prop := Claim7.holds Tryz.pinned (.plain (OpenSpec.upto snapChecksSpec)) snapChecksUptoCard

/-- THE SECOND FORM's CARD OF 'pursebearerlaw17.PlaneFull'. -/
def planeFullUptoCard : Claim7 := { stood := { row := planeFullUptoRow, standIns := [], harness := (true, "2704740e5643cf5fa6067da485e158c478ee98dec8ba6a8bf5c0b8f81d4d23aa"), looks := false }, kinds := [], alts := [], laidByText := true, laidKinds := [.data, .pinned], laidTests := true, laidLooks := .later }
def PlaneFullUptoCardSaid : Prop := Claim7.holds Tryz.pinned (.plain (OpenSpec.upto planeFullSpec)) planeFullUptoCard

/-- THE SECOND FORM's CARD OF 'pursebearerlaw17.PlaneEnds'. -/
def planeEndsUptoCard : Claim7 := { stood := { row := planeEndsUptoRow, standIns := [], harness := (true, "2704740e5643cf5fa6067da485e158c478ee98dec8ba6a8bf5c0b8f81d4d23aa"), looks := false }, kinds := [], alts := [], laidByText := true, laidKinds := [.data, .pinned], laidTests := true, laidLooks := .later }
def PlaneEndsUptoCardSaid : Prop := Claim7.holds Tryz.pinned (.plain (OpenSpec.upto planeEndsSpec)) planeEndsUptoCard
end Rows
end Go.Proofs.YtkhebanpplokdaaGreatDoor
