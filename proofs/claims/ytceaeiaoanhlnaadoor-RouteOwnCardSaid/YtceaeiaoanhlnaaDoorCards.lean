/-
  DERIVED. GIVEN WITH THE SEED: THE CARDS: each row of YtceaeiaoanhlnaaDoorRows.lean that lists a variable, with what it lists TIED to the program's text (the seventh form; the later family's looks); each row that meets fmt, with fmt's text TOLD by the authors' own Lean function (tested against real Go, not proved from fmt's source: count such statements apart). THE CARD IS WHAT COUNTS. Prove the row's statement (the work); the ties are given (YtceaeiaoanhlnaaDoorTie.lean); close each card by the builder's one call (the guide's Derived/Test/ToyasCard.lean, 'card_holds'). Laid BY PROGRAM, IN A SANDBOX (cutbox-door.mjs). By AI agents, Wed Nov 11 2026. No macro, syntax, notation, axiom, sorry.
-/
import Derived.Test.YtceaeiaoanhlnaaDoorRows
import GoSem.ClaimSeven
namespace Go.Proofs.YtceaeiaoanhlnaaDoor
namespace Rows

/-- THE TIED CARD OF 'pursebearerlaw08.RouteOwn'. -/
def routeOwnCard : Claim7 := { stood := { row := routeOwnRow, standIns := [], harness := (true, "372ec0bf8fc75eb8a46b4479878639b495e17bb97fa5599502817564e98d7b1f"), looks := false }, kinds := [], alts := [], laidByText := true, laidKinds := [.data, .pinned], laidTests := true, laidLooks := .later }
def RouteOwnCardSaid : Prop := Claim7.holds Tryd.pinned (.plain (OpenSpec.ofChange routeOwnSpec)) routeOwnCard

/-- THE TIED CARD OF 'pursebearerlaw33.GraphSteps'. -/
def graphStepsCard : Claim7 := { stood := { row := graphStepsRow, standIns := [], harness := (true, "372ec0bf8fc75eb8a46b4479878639b495e17bb97fa5599502817564e98d7b1f"), looks := false }, kinds := [], alts := [], laidByText := true, laidKinds := [.data, .pinned], laidTests := true, laidLooks := .later }
def GraphStepsCardSaid : Prop := Claim7.holds Tryd.pinned (.plain (OpenSpec.ofChange graphStepsSpec)) graphStepsCard

/-- THE TIED CARD OF 'pursebearerlaw33.GraphPurse'. -/
def graphPurseCard : Claim7 := { stood := { row := graphPurseRow, standIns := [], harness := (true, "372ec0bf8fc75eb8a46b4479878639b495e17bb97fa5599502817564e98d7b1f"), looks := false }, kinds := [], alts := [], laidByText := true, laidKinds := [.data, .pinned], laidTests := true, laidLooks := .later }
def GraphPurseCardSaid : Prop := Claim7.holds Tryd.pinned (.plain (OpenSpec.ofChange graphPurseSpec)) graphPurseCard

/-- THE SECOND FORM's CARD OF 'pursebearerlaw08.RouteOwn'. -/
def routeOwnUptoCard : Claim7 := { stood := { row := routeOwnUptoRow, standIns := [], harness := (true, "372ec0bf8fc75eb8a46b4479878639b495e17bb97fa5599502817564e98d7b1f"), looks := false }, kinds := [], alts := [], laidByText := true, laidKinds := [.data, .pinned], laidTests := true, laidLooks := .later }
def RouteOwnUptoCardSaid : Prop := Claim7.holds Tryd.pinned (.plain (OpenSpec.upto routeOwnSpec)) routeOwnUptoCard

/-- THE SECOND FORM's CARD OF 'pursebearerlaw33.GraphSteps'. -/
def graphStepsUptoCard : Claim7 := { stood := { row := graphStepsUptoRow, standIns := [], harness := (true, "372ec0bf8fc75eb8a46b4479878639b495e17bb97fa5599502817564e98d7b1f"), looks := false }, kinds := [], alts := [], laidByText := true, laidKinds := [.data, .pinned], laidTests := true, laidLooks := .later }
def GraphStepsUptoCardSaid : Prop := Claim7.holds Tryd.pinned (.plain (OpenSpec.upto graphStepsSpec)) graphStepsUptoCard

/-- THE SECOND FORM's CARD OF 'pursebearerlaw33.GraphPurse'. -/
def graphPurseUptoCard : Claim7 := { stood := { row := graphPurseUptoRow, standIns := [], harness := (true, "372ec0bf8fc75eb8a46b4479878639b495e17bb97fa5599502817564e98d7b1f"), looks := false }, kinds := [], alts := [], laidByText := true, laidKinds := [.data, .pinned], laidTests := true, laidLooks := .later }
def GraphPurseUptoCardSaid : Prop := Claim7.holds Tryd.pinned (.plain (OpenSpec.upto graphPurseSpec)) graphPurseUptoCard
end Rows
end Go.Proofs.YtceaeiaoanhlnaaDoor
