/-
  DERIVED. GIVEN WITH THE SEED: THE CARDS: each row of YtclebcpcdeeaoaaGreatDoorRows.lean that lists a variable, with what it lists TIED to the program's text (the seventh form; the later family's looks); each row that meets fmt, with fmt's text TOLD by the authors' own Lean function (tested against real Go, not proved from fmt's source: count such statements apart). THE CARD IS WHAT COUNTS. Prove the row's statement (the work); the ties are given (YtclebcpcdeeaoaaGreatDoorTie.lean); close each card by the builder's one call (the guide's Derived/Test/ToyasCard.lean, 'card_holds'). Laid BY PROGRAM, IN A SANDBOX (cutbox-door.mjs). By AI agents, Wed Nov 11 2026. No macro, syntax, notation, axiom, sorry.
-/
import Derived.Test.YtclebcpcdeeaoaaGreatDoorRows
import GoSem.ClaimSeven
namespace Go.Proofs.YtclebcpcdeeaoaaGreatDoor
namespace Rows

/-- THE TIED CARD OF 'pursebearerlaw16.SnapChecks'. -/
def snapChecksCard : Claim7 := { stood := { row := snapChecksRow, standIns := [], harness := (true, "4b89528d1ffbfdacb9790952142170c3aa52c80ee3920bd528fb81c88249a7ac"), looks := false }, kinds := [], alts := [], laidByText := true, laidKinds := [.data, .pinned], laidTests := true, laidLooks := .later }
def SnapChecksCardSaid : Prop := Claim7.holds Tryz.pinned (.plain (OpenSpec.ofChange snapChecksSpec)) snapChecksCard

/-- THE TIED CARD OF 'pursebearerlaw16.SnapDiffs'. -/
def snapDiffsCard : Claim7 := { stood := { row := snapDiffsRow, standIns := [], harness := (true, "4b89528d1ffbfdacb9790952142170c3aa52c80ee3920bd528fb81c88249a7ac"), looks := false }, kinds := [], alts := [], laidByText := true, laidKinds := [.data, .pinned], laidTests := true, laidLooks := .later }
def SnapDiffsCardSaid : Prop := Claim7.holds Tryz.pinned (.plain (OpenSpec.ofChange snapDiffsSpec)) snapDiffsCard

/-- THE TIED CARD OF 'pursebearerlaw16.SnapOwns'. -/
def snapOwnsCard : Claim7 := { stood := { row := snapOwnsRow, standIns := [], harness := (true, "4b89528d1ffbfdacb9790952142170c3aa52c80ee3920bd528fb81c88249a7ac"), looks := false }, kinds := [], alts := [], laidByText := true, laidKinds := [.data, .pinned], laidTests := true, laidLooks := .later }
def SnapOwnsCardSaid : Prop := Claim7.holds Tryz.pinned (.plain (OpenSpec.ofChange snapOwnsSpec)) snapOwnsCard

/-- THE TIED CARD OF 'pursebearerlaw16.SnapAsks'. -/
def snapAsksCard : Claim7 := { stood := { row := snapAsksRow, standIns := [], harness := (true, "4b89528d1ffbfdacb9790952142170c3aa52c80ee3920bd528fb81c88249a7ac"), looks := false }, kinds := [], alts := [], laidByText := true, laidKinds := [.data, .pinned], laidTests := true, laidLooks := .later }
def SnapAsksCardSaid : Prop := Claim7.holds Tryz.pinned (.plain (OpenSpec.ofChange snapAsksSpec)) snapAsksCard

/-- THE TIED CARD OF 'pursebearerlaw16.SnapRow'. -/
def snapRowCard : Claim7 := { stood := { row := snapRowRow, standIns := [], harness := (true, "4b89528d1ffbfdacb9790952142170c3aa52c80ee3920bd528fb81c88249a7ac"), looks := false }, kinds := [], alts := [], laidByText := true, laidKinds := [.data, .pinned], laidTests := true, laidLooks := .later }
def SnapRowCardSaid : Prop := Claim7.holds Tryz.pinned (.plain (OpenSpec.ofChange snapRowSpec)) snapRowCard

/-- THE TIED CARD OF 'pursebearerlaw16.SnapEnds'. -/
def snapEndsCard : Claim7 := { stood := { row := snapEndsRow, standIns := [], harness := (true, "4b89528d1ffbfdacb9790952142170c3aa52c80ee3920bd528fb81c88249a7ac"), looks := false }, kinds := [], alts := [], laidByText := true, laidKinds := [.data, .pinned], laidTests := true, laidLooks := .later }
def SnapEndsCardSaid : Prop := Claim7.holds Tryz.pinned (.plain (OpenSpec.ofChange snapEndsSpec)) snapEndsCard

/-- THE TIED CARD OF 'pursebearerlaw17.PlaneFull'. -/
def planeFullCard : Claim7 := { stood := { row := planeFullRow, standIns := [], harness := (true, "4b89528d1ffbfdacb9790952142170c3aa52c80ee3920bd528fb81c88249a7ac"), looks := false }, kinds := [], alts := [], laidByText := true, laidKinds := [.data, .pinned], laidTests := true, laidLooks := .later }
def PlaneFullCardSaid : Prop := Claim7.holds Tryz.pinned (.plain (OpenSpec.ofChange planeFullSpec)) planeFullCard

/-- THE TIED CARD OF 'pursebearerlaw17.PlaneRow'. -/
def planeRowCard : Claim7 := { stood := { row := planeRowRow, standIns := [], harness := (true, "4b89528d1ffbfdacb9790952142170c3aa52c80ee3920bd528fb81c88249a7ac"), looks := false }, kinds := [], alts := [], laidByText := true, laidKinds := [.data, .pinned], laidTests := true, laidLooks := .later }
def PlaneRowCardSaid : Prop := Claim7.holds Tryz.pinned (.plain (OpenSpec.ofChange planeRowSpec)) planeRowCard

/-- THE TIED CARD OF 'pursebearerlaw16.SnapRoutes'. -/
def snapRoutesCard : Claim7 := { stood := { row := snapRoutesRow, standIns := [], harness := (true, "4b89528d1ffbfdacb9790952142170c3aa52c80ee3920bd528fb81c88249a7ac"), looks := false }, kinds := [], alts := [], laidByText := true, laidKinds := [.data, .pinned], laidTests := true, laidLooks := .later }
def SnapRoutesCardSaid : Prop := Claim7.holds Tryz.pinned (.plain (OpenSpec.ofChange snapRoutesSpec)) snapRoutesCard

/-- THE TIED CARD OF 'pursebearerlaw17.PlaneSnap'. -/
def planeSnapCard : Claim7 := { stood := { row := planeSnapRow, standIns := [], harness := (true, "4b89528d1ffbfdacb9790952142170c3aa52c80ee3920bd528fb81c88249a7ac"), looks := false }, kinds := [], alts := [], laidByText := true, laidKinds := [.data, .pinned], laidTests := true, laidLooks := .later }
def PlaneSnapCardSaid : Prop := Claim7.holds Tryz.pinned (.plain (OpenSpec.ofChange planeSnapSpec)) planeSnapCard

/-- THE TIED CARD OF 'pursebearerlaw17.PlaneLive'. -/
def planeLiveCard : Claim7 := { stood := { row := planeLiveRow, standIns := [], harness := (true, "4b89528d1ffbfdacb9790952142170c3aa52c80ee3920bd528fb81c88249a7ac"), looks := false }, kinds := [], alts := [], laidByText := true, laidKinds := [.data, .pinned], laidTests := true, laidLooks := .later }
def PlaneLiveCardSaid : Prop := Claim7.holds Tryz.pinned (.plain (OpenSpec.ofChange planeLiveSpec)) planeLiveCard

/-- THE TIED CARD OF 'pursebearerlaw17.PlaneEnds'. -/
def planeEndsCard : Claim7 := { stood := { row := planeEndsRow, standIns := [], harness := (true, "4b89528d1ffbfdacb9790952142170c3aa52c80ee3920bd528fb81c88249a7ac"), looks := false }, kinds := [], alts := [], laidByText := true, laidKinds := [.data, .pinned], laidTests := true, laidLooks := .later }
def PlaneEndsCardSaid : Prop := Claim7.holds Tryz.pinned (.plain (OpenSpec.ofChange planeEndsSpec)) planeEndsCard

/-- THE SECOND FORM's CARD OF 'pursebearerlaw16.SnapChecks'. -/
def snapChecksUptoCard : Claim7 := { stood := { row := snapChecksUptoRow, standIns := [], harness := (true, "4b89528d1ffbfdacb9790952142170c3aa52c80ee3920bd528fb81c88249a7ac"), looks := false }, kinds := [], alts := [], laidByText := true, laidKinds := [.data, .pinned], laidTests := true, laidLooks := .later }
def SnapChecksUptoCardSaid : Prop := Claim7.holds Tryz.pinned (.plain (OpenSpec.upto snapChecksSpec)) snapChecksUptoCard

/-- THE SECOND FORM's CARD OF 'pursebearerlaw16.SnapDiffs'. -/
def snapDiffsUptoCard : Claim7 := { stood := { row := snapDiffsUptoRow, standIns := [], harness := (true, "4b89528d1ffbfdacb9790952142170c3aa52c80ee3920bd528fb81c88249a7ac"), looks := false }, kinds := [], alts := [], laidByText := true, laidKinds := [.data, .pinned], laidTests := true, laidLooks := .later }
def SnapDiffsUptoCardSaid : Prop := Claim7.holds Tryz.pinned (.plain (OpenSpec.upto snapDiffsSpec)) snapDiffsUptoCard

/-- THE SECOND FORM's CARD OF 'pursebearerlaw16.SnapOwns'. -/
def snapOwnsUptoCard : Claim7 := { stood := { row := snapOwnsUptoRow, standIns := [], harness := (true, "4b89528d1ffbfdacb9790952142170c3aa52c80ee3920bd528fb81c88249a7ac"), looks := false }, kinds := [], alts := [], laidByText := true, laidKinds := [.data, .pinned], laidTests := true, laidLooks := .later }
def SnapOwnsUptoCardSaid : Prop := Claim7.holds Tryz.pinned (.plain (OpenSpec.upto snapOwnsSpec)) snapOwnsUptoCard

/-- THE SECOND FORM's CARD OF 'pursebearerlaw16.SnapAsks'. -/
def snapAsksUptoCard : Claim7 := { stood := { row := snapAsksUptoRow, standIns := [], harness := (true, "4b89528d1ffbfdacb9790952142170c3aa52c80ee3920bd528fb81c88249a7ac"), looks := false }, kinds := [], alts := [], laidByText := true, laidKinds := [.data, .pinned], laidTests := true, laidLooks := .later }
def SnapAsksUptoCardSaid : Prop := Claim7.holds Tryz.pinned (.plain (OpenSpec.upto snapAsksSpec)) snapAsksUptoCard

/-- THE SECOND FORM's CARD OF 'pursebearerlaw16.SnapRow'. -/
def snapRowUptoCard : Claim7 := { stood := { row := snapRowUptoRow, standIns := [], harness := (true, "4b89528d1ffbfdacb9790952142170c3aa52c80ee3920bd528fb81c88249a7ac"), looks := false }, kinds := [], alts := [], laidByText := true, laidKinds := [.data, .pinned], laidTests := true, laidLooks := .later }
def SnapRowUptoCardSaid : Prop := Claim7.holds Tryz.pinned (.plain (OpenSpec.upto snapRowSpec)) snapRowUptoCard

/-- THE SECOND FORM's CARD OF 'pursebearerlaw16.SnapEnds'. -/
def snapEndsUptoCard : Claim7 := { stood := { row := snapEndsUptoRow, standIns := [], harness := (true, "4b89528d1ffbfdacb9790952142170c3aa52c80ee3920bd528fb81c88249a7ac"), looks := false }, kinds := [], alts := [], laidByText := true, laidKinds := [.data, .pinned], laidTests := true, laidLooks := .later }
def SnapEndsUptoCardSaid : Prop := Claim7.holds Tryz.pinned (.plain (OpenSpec.upto snapEndsSpec)) snapEndsUptoCard

/-- THE SECOND FORM's CARD OF 'pursebearerlaw17.PlaneFull'. -/
def planeFullUptoCard : Claim7 := { stood := { row := planeFullUptoRow, standIns := [], harness := (true, "4b89528d1ffbfdacb9790952142170c3aa52c80ee3920bd528fb81c88249a7ac"), looks := false }, kinds := [], alts := [], laidByText := true, laidKinds := [.data, .pinned], laidTests := true, laidLooks := .later }
def PlaneFullUptoCardSaid : Prop := Claim7.holds Tryz.pinned (.plain (OpenSpec.upto planeFullSpec)) planeFullUptoCard

/-- THE SECOND FORM's CARD OF 'pursebearerlaw17.PlaneRow'. -/
def planeRowUptoCard : Claim7 := { stood := { row := planeRowUptoRow, standIns := [], harness := (true, "4b89528d1ffbfdacb9790952142170c3aa52c80ee3920bd528fb81c88249a7ac"), looks := false }, kinds := [], alts := [], laidByText := true, laidKinds := [.data, .pinned], laidTests := true, laidLooks := .later }
def PlaneRowUptoCardSaid : Prop := Claim7.holds Tryz.pinned (.plain (OpenSpec.upto planeRowSpec)) planeRowUptoCard

/-- THE SECOND FORM's CARD OF 'pursebearerlaw16.SnapRoutes'. -/
def snapRoutesUptoCard : Claim7 := { stood := { row := snapRoutesUptoRow, standIns := [], harness := (true, "4b89528d1ffbfdacb9790952142170c3aa52c80ee3920bd528fb81c88249a7ac"), looks := false }, kinds := [], alts := [], laidByText := true, laidKinds := [.data, .pinned], laidTests := true, laidLooks := .later }
def SnapRoutesUptoCardSaid : Prop := Claim7.holds Tryz.pinned (.plain (OpenSpec.upto snapRoutesSpec)) snapRoutesUptoCard

/-- THE SECOND FORM's CARD OF 'pursebearerlaw17.PlaneSnap'. -/
def planeSnapUptoCard : Claim7 := { stood := { row := planeSnapUptoRow, standIns := [], harness := (true, "4b89528d1ffbfdacb9790952142170c3aa52c80ee3920bd528fb81c88249a7ac"), looks := false }, kinds := [], alts := [], laidByText := true, laidKinds := [.data, .pinned], laidTests := true, laidLooks := .later }
def PlaneSnapUptoCardSaid : Prop := Claim7.holds Tryz.pinned (.plain (OpenSpec.upto planeSnapSpec)) planeSnapUptoCard

/-- THE SECOND FORM's CARD OF 'pursebearerlaw17.PlaneLive'. -/
def planeLiveUptoCard : Claim7 := { stood := { row := planeLiveUptoRow, standIns := [], harness := (true, "4b89528d1ffbfdacb9790952142170c3aa52c80ee3920bd528fb81c88249a7ac"), looks := false }, kinds := [], alts := [], laidByText := true, laidKinds := [.data, .pinned], laidTests := true, laidLooks := .later }
def PlaneLiveUptoCardSaid : Prop := Claim7.holds Tryz.pinned (.plain (OpenSpec.upto planeLiveSpec)) planeLiveUptoCard

/-- THE SECOND FORM's CARD OF 'pursebearerlaw17.PlaneEnds'. -/
def planeEndsUptoCard : Claim7 := { stood := { row := planeEndsUptoRow, standIns := [], harness := (true, "4b89528d1ffbfdacb9790952142170c3aa52c80ee3920bd528fb81c88249a7ac"), looks := false }, kinds := [], alts := [], laidByText := true, laidKinds := [.data, .pinned], laidTests := true, laidLooks := .later }
def PlaneEndsUptoCardSaid : Prop := Claim7.holds Tryz.pinned (.plain (OpenSpec.upto planeEndsSpec)) planeEndsUptoCard
end Rows
end Go.Proofs.YtclebcpcdeeaoaaGreatDoor
