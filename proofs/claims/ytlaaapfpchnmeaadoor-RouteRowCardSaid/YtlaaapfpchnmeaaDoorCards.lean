/-
  DERIVED. GIVEN WITH THE SEED: THE CARDS: each row of YtlaaapfpchnmeaaDoorRows.lean that lists a variable, with what it lists TIED to the program's text (the seventh form; the later family's looks); each row that meets fmt, with fmt's text TOLD by the authors' own Lean function (tested against real Go, not proved from fmt's source: count such statements apart). THE CARD IS WHAT COUNTS. Prove the row's statement (the work); the ties are given (YtlaaapfpchnmeaaDoorTie.lean); close each card by the builder's one call (the guide's Derived/Test/ToyasCard.lean, 'card_holds'). Laid BY PROGRAM, IN A SANDBOX (cutbox-door.mjs). By AI agents, Wed Nov 11 2026. No macro, syntax, notation, axiom, sorry.
-/
import Derived.Test.YtlaaapfpchnmeaaDoorRows
import GoSem.ClaimSeven
namespace Go.Proofs.YtlaaapfpchnmeaaDoor
namespace Rows

/-- THE TIED CARD OF 'pursebearerlaw08.RouteNews'. -/
def routeNewsCard : Claim7 := { stood := { row := routeNewsRow, standIns := [], harness := (true, "5da07f754646138d8f9e67ea3bfbcbba66fe29c8de03f88699d5d5eb612ccb51"), looks := false }, kinds := [], alts := [], laidByText := true, laidKinds := [.data, .pinned], laidTests := true, laidLooks := .later }
def RouteNewsCardSaid : Prop := Claim7.holds Tryd.pinned (.plain (OpenSpec.ofChange routeNewsSpec)) routeNewsCard

/-- THE TIED CARD OF 'pursebearerlaw08.RouteRow'. -/
def routeRowCard : Claim7 := { stood := { row := routeRowRow, standIns := [], harness := (true, "5da07f754646138d8f9e67ea3bfbcbba66fe29c8de03f88699d5d5eb612ccb51"), looks := false }, kinds := [], alts := [], laidByText := true, laidKinds := [.data, .pinned], laidTests := true, laidLooks := .later }
def RouteRowCardSaid : Prop := Claim7.holds Tryd.pinned (.plain (OpenSpec.ofChange routeRowSpec)) routeRowCard

/-- THE TIED CARD OF 'pursebearerlaw08.RouteAll'. -/
def routeAllCard : Claim7 := { stood := { row := routeAllRow, standIns := [], harness := (true, "5da07f754646138d8f9e67ea3bfbcbba66fe29c8de03f88699d5d5eb612ccb51"), looks := false }, kinds := [], alts := [], laidByText := true, laidKinds := [.data, .pinned], laidTests := true, laidLooks := .later }
def RouteAllCardSaid : Prop := Claim7.holds Tryd.pinned (.plain (OpenSpec.ofChange routeAllSpec)) routeAllCard

/-- THE TIED CARD OF 'pursebearerlaw08.RouteOwn'. -/
def routeOwnCard : Claim7 := { stood := { row := routeOwnRow, standIns := [], harness := (true, "5da07f754646138d8f9e67ea3bfbcbba66fe29c8de03f88699d5d5eb612ccb51"), looks := false }, kinds := [], alts := [], laidByText := true, laidKinds := [.data, .pinned], laidTests := true, laidLooks := .later }
def RouteOwnCardSaid : Prop := Claim7.holds Tryd.pinned (.plain (OpenSpec.ofChange routeOwnSpec)) routeOwnCard

/-- THE SECOND FORM's CARD OF 'pursebearerlaw08.RouteNews'. -/
def routeNewsUptoCard : Claim7 := { stood := { row := routeNewsUptoRow, standIns := [], harness := (true, "5da07f754646138d8f9e67ea3bfbcbba66fe29c8de03f88699d5d5eb612ccb51"), looks := false }, kinds := [], alts := [], laidByText := true, laidKinds := [.data, .pinned], laidTests := true, laidLooks := .later }
def RouteNewsUptoCardSaid : Prop := Claim7.holds Tryd.pinned (.plain (OpenSpec.upto routeNewsSpec)) routeNewsUptoCard

/-- THE SECOND FORM's CARD OF 'pursebearerlaw08.RouteRow'. -/
def routeRowUptoCard : Claim7 := { stood := { row := routeRowUptoRow, standIns := [], harness := (true, "5da07f754646138d8f9e67ea3bfbcbba66fe29c8de03f88699d5d5eb612ccb51"), looks := false }, kinds := [], alts := [], laidByText := true, laidKinds := [.data, .pinned], laidTests := true, laidLooks := .later }
def RouteRowUptoCardSaid : Prop := Claim7.holds Tryd.pinned (.plain (OpenSpec.upto routeRowSpec)) routeRowUptoCard

/-- THE SECOND FORM's CARD OF 'pursebearerlaw08.RouteAll'. -/
def routeAllUptoCard : Claim7 := { stood := { row := routeAllUptoRow, standIns := [], harness := (true, "5da07f754646138d8f9e67ea3bfbcbba66fe29c8de03f88699d5d5eb612ccb51"), looks := false }, kinds := [], alts := [], laidByText := true, laidKinds := [.data, .pinned], laidTests := true, laidLooks := .later }
def RouteAllUptoCardSaid : Prop := Claim7.holds Tryd.pinned (.plain (OpenSpec.upto routeAllSpec)) routeAllUptoCard

/-- THE SECOND FORM's CARD OF 'pursebearerlaw08.RouteOwn'. -/
def routeOwnUptoCard : Claim7 := { stood := { row := routeOwnUptoRow, standIns := [], harness := (true, "5da07f754646138d8f9e67ea3bfbcbba66fe29c8de03f88699d5d5eb612ccb51"), looks := false }, kinds := [], alts := [], laidByText := true, laidKinds := [.data, .pinned], laidTests := true, laidLooks := .later }
def RouteOwnUptoCardSaid : Prop := Claim7.holds Tryd.pinned (.plain (OpenSpec.upto routeOwnSpec)) routeOwnUptoCard
end Rows
end Go.Proofs.YtlaaapfpchnmeaaDoor
