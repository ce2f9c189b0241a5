/-
  DERIVED. GIVEN WITH THE SEED: THE CARDS: each row of YtnnddjmdpplolaaGreatDoorRows.lean that lists a variable, with what it lists TIED to the program's text (the seventh form; the later family's looks); each row that meets fmt, with fmt's text TOLD by the authors' own Lean function (tested against real Go, not proved from fmt's source: count such statements apart). THE CARD IS WHAT COUNTS. Prove the row's statement (the work); the ties are given (YtnnddjmdpplolaaGreatDoorTie.lean); close each card by the builder's one call (the guide's Derived/Test/ToyasCard.lean, 'card_holds'). Laid BY PROGRAM, IN A SANDBOX (cutbox-door.mjs). By AI agents, Wed Nov 11 2026. No macro, syntax, notation, axiom, sorry.
-/
import Derived.Test.YtnnddjmdpplolaaGreatDoorRows
import GoSem.ClaimSeven
namespace Go.Proofs.YtnnddjmdpplolaaGreatDoor
namespace Rows

/-- THE TIED CARD OF 'pursebearerlaw17.PlaneRow'. -/
def planeRowCard : Claim7 := { stood := { row := planeRowRow, standIns := [], harness := (true, "9c929e6ad0f6e9dbd70bd678a36bbab74c3a0e0df4bde370d700ab3557a8a1f6"), looks := false }, kinds := [], alts := [], laidByText := true, laidKinds := [.data, .pinned], laidTests := true, laidLooks := .later }
def PlaneRowCardSaid : Prop := Claim7.holds Tryz.pinned (.plain (OpenSpec.ofChange planeRowSpec)) planeRowCard

/-- THE TIED CARD OF 'pursebearerlaw17.PlaneSnap'. -/
def planeSnapCard : Claim7 := { stood := { row := planeSnapRow, standIns := [], harness := (true, "9c929e6ad0f6e9dbd70bd678a36bbab74c3a0e0df4bde370d700ab3557a8a1f6"), looks := false }, kinds := [], alts := [], laidByText := true, laidKinds := [.data, .pinned], laidTests := true, laidLooks := .later }
def PlaneSnapCardSaid : Prop := Claim7.holds Tryz.pinned (.plain (OpenSpec.ofChange planeSnapSpec)) planeSnapCard

/-- THE TIED CARD OF 'pursebearerlaw17.PlaneLive'. -/
def planeLiveCard : Claim7 := { stood := { row := planeLiveRow, standIns := [], harness := (true, "9c929e6ad0f6e9dbd70bd678a36bbab74c3a0e0df4bde370d700ab3557a8a1f6"), looks := false }, kinds := [], alts := [], laidByText := true, laidKinds := [.data, .pinned], laidTests := true, laidLooks := .later }
def PlaneLiveCardSaid : Prop := Claim7.holds Tryz.pinned (.plain (OpenSpec.ofChange planeLiveSpec)) planeLiveCard

/-- THE TIED CARD OF 'pursebearerlaw17.PlaneEnds'. -/
def planeEndsCard : Claim7 := { stood := { row := planeEndsRow, standIns := [], harness := (true, "9c929e6ad0f6e9dbd70bd678a36bbab74c3a0e0df4bde370d700ab3557a8a1f6"), looks := false }, kinds := [], alts := [], laidByText := true, laidKinds := [.data, .pinned], laidTests := true, laidLooks := .later }
def PlaneEndsCardSaid : Prop := Claim7.holds Tryz.pinned (.plain (OpenSpec.ofChange planeEndsSpec)) planeEndsCard

/-- THE SECOND FORM's CARD OF 'pursebearerlaw17.PlaneRow'. -/
def planeRowUptoCard : Claim7 := { stood := { row := planeRowUptoRow, standIns := [], harness := (true, "9c929e6ad0f6e9dbd70bd678a36bbab74c3a0e0df4bde370d700ab3557a8a1f6"), looks := false }, kinds := [], alts := [], laidByText := true, laidKinds := [.data, .pinned], laidTests := true, laidLooks := .later }
def PlaneRowUptoCardSaid : Prop := Claim7.holds Tryz.pinned (.plain (OpenSpec.upto planeRowSpec)) planeRowUptoCard

/-- THE SECOND FORM's CARD OF 'pursebearerlaw17.PlaneSnap'. -/
def planeSnapUptoCard : Claim7 := { stood := { row := planeSnapUptoRow, standIns := [], harness := (true, "9c929e6ad0f6e9dbd70bd678a36bbab74c3a0e0df4bde370d700ab3557a8a1f6"), looks := false }, kinds := [], alts := [], laidByText := true, laidKinds := [.data, .pinned], laidTests := true, laidLooks := .later }
def PlaneSnapUptoCardSaid : Prop := Claim7.holds Tryz.pinned (.plain (OpenSpec.upto planeSnapSpec)) planeSnapUptoCard

/-- THE SECOND FORM's CARD OF 'pursebearerlaw17.PlaneLive'. -/
def planeLiveUptoCard : Claim7 := { stood := { row := planeLiveUptoRow, standIns := [], harness := (true, "9c929e6ad0f6e9dbd70bd678a36bbab74c3a0e0df4bde370d700ab3557a8a1f6"), looks := false }, kinds := [], alts := [], laidByText := true, laidKinds := [.data, .pinned], laidTests := true, laidLooks := .later }
def PlaneLiveUptoCardSaid : Prop := Claim7.holds Tryz.pinned (.plain (OpenSpec.upto planeLiveSpec)) planeLiveUptoCard

/-- THE SECOND FORM's CARD OF 'pursebearerlaw17.PlaneEnds'. -/
def planeEndsUptoCard : Claim7 := { stood := { row := planeEndsUptoRow, standIns := [], harness := (true, "9c929e6ad0f6e9dbd70bd678a36bbab74c3a0e0df4bde370d700ab3557a8a1f6"), looks := false }, kinds := [], alts := [], laidByText := true, laidKinds := [.data, .pinned], laidTests := true, laidLooks := .later }
def PlaneEndsUptoCardSaid : Prop := Claim7.holds Tryz.pinned (.plain (OpenSpec.upto planeEndsSpec)) planeEndsUptoCard
end Rows
end Go.Proofs.YtnnddjmdpplolaaGreatDoor
