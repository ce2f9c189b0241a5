/-
  DERIVED. GIVEN WITH THE SEED: THE CARDS: each row of YtlaaapfpchnmeaaGreatDoorRows.lean that lists a variable, with what it lists TIED to the program's text (the seventh form; the later family's looks); each row that meets fmt, with fmt's text TOLD by the authors' own Lean function (tested against real Go, not proved from fmt's source: count such statements apart). THE CARD IS WHAT COUNTS. Prove the row's statement (the work); the ties are given (YtlaaapfpchnmeaaGreatDoorTie.lean); close each card by the builder's one call (the guide's Derived/Test/ToyasCard.lean, 'card_holds'). Laid BY PROGRAM, IN A SANDBOX (cutbox-door.mjs). By AI agents, Wed Nov 11 2026. No macro, syntax, notation, axiom, sorry.
-/
import Derived.Test.YtlaaapfpchnmeaaGreatDoorRows
import GoSem.ClaimSeven
namespace Go.Proofs.YtlaaapfpchnmeaaGreatDoor
namespace Rows

/-- THE TIED CARD OF 'pursebearerlaw08.RouteFinds'. -/
def routeFindsCard : Claim7 := { stood := { row := routeFindsRow, standIns := [], harness := (true, "b25d44967ead310738dbb4d0715048d27df8214919e4b4455cc0f0151f9c158f"), looks := false }, kinds := [], alts := [], laidByText := true, laidKinds := [.data, .pinned], laidTests := true, laidLooks := .later }
def RouteFindsCardSaid : Prop := Claim7.holds Tryz.pinned (.plain (OpenSpec.ofChange routeFindsSpec)) routeFindsCard

/-- THE TIED CARD OF 'pursebearerlaw08.RouteBest'. -/
def routeBestCard : Claim7 := { stood := { row := routeBestRow, standIns := [], harness := (true, "b25d44967ead310738dbb4d0715048d27df8214919e4b4455cc0f0151f9c158f"), looks := false }, kinds := [], alts := [], laidByText := true, laidKinds := [.data, .pinned], laidTests := true, laidLooks := .later }
def RouteBestCardSaid : Prop := Claim7.holds Tryz.pinned (.plain (OpenSpec.ofChange routeBestSpec)) routeBestCard

/-- THE SECOND FORM's CARD OF 'pursebearerlaw08.RouteFinds'. -/
def routeFindsUptoCard : Claim7 := { stood := { row := routeFindsUptoRow, standIns := [], harness := (true, "b25d44967ead310738dbb4d0715048d27df8214919e4b4455cc0f0151f9c158f"), looks := false }, kinds := [], alts := [], laidByText := true, laidKinds := [.data, .pinned], laidTests := true, laidLooks := .later }
def RouteFindsUptoCardSaid : Prop := Claim7.holds Tryz.pinned (.plain (OpenSpec.upto routeFindsSpec)) routeFindsUptoCard

/-- THE SECOND FORM's CARD OF 'pursebearerlaw08.RouteBest'. -/
def routeBestUptoCard : Claim7 := { stood := { row := routeBestUptoRow, standIns := [], harness := (true, "b25d44967ead310738dbb4d0715048d27df8214919e4b4455cc0f0151f9c158f"), looks := false }, kinds := [], alts := [], laidByText := true, laidKinds := [.data, .pinned], laidTests := true, laidLooks := .later }
def RouteBestUptoCardSaid : Prop := Claim7.holds Tryz.pinned (.plain (OpenSpec.upto routeBestSpec)) routeBestUptoCard
end Rows
end Go.Proofs.YtlaaapfpchnmeaaGreatDoor
