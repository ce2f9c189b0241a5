/-
  DERIVED. GIVEN WITH THE SEED: THE CARDS: each row of YtceaeiaoanhlnaaGreatDoorRows.lean that lists a variable, with what it lists TIED to the program's text (the seventh form; the later family's looks); each row that meets fmt, with fmt's text TOLD by the authors' own Lean function (tested against real Go, not proved from fmt's source: count such statements apart). THE CARD IS WHAT COUNTS. Prove the row's statement (the work); the ties are given (YtceaeiaoanhlnaaGreatDoorTie.lean); close each card by the builder's one call (the guide's Derived/Test/ToyasCard.lean, 'card_holds'). Laid BY PROGRAM, IN A SANDBOX (cutbox-door.mjs). By AI agents, Wed Nov 11 2026. No macro, syntax, notation, axiom, sorry.
-/
import Derived.Test.YtceaeiaoanhlnaaGreatDoorRows
import GoSem.ClaimSeven
namespace Go.Proofs.YtceaeiaoanhlnaaGreatDoor
namespace Rows

/-- THE TIED CARD OF 'pursebearerlaw33.GraphKids'. -/
def graphKidsCard : Claim7 := { stood := { row := graphKidsRow, standIns := [], harness := (true, "b261351877dbc6154e7d9dec5c418682182a709269a28bdc1ec3b79044498e45"), looks := false }, kinds := [], alts := [], laidByText := true, laidKinds := [.data, .pinned], laidTests := true, laidLooks := .later }
def GraphKidsCardSaid : Prop := Claim7.holds Tryz.pinned (.plain (OpenSpec.ofChange graphKidsSpec)) graphKidsCard

/-- THE TIED CARD OF 'pursebearerlaw33.GraphWalks'. -/
def graphWalksCard : Claim7 := { stood := { row := graphWalksRow, standIns := [], harness := (true, "b261351877dbc6154e7d9dec5c418682182a709269a28bdc1ec3b79044498e45"), looks := false }, kinds := [], alts := [], laidByText := true, laidKinds := [.data, .pinned], laidTests := true, laidLooks := .later }
def GraphWalksCardSaid : Prop := Claim7.holds Tryz.pinned (.plain (OpenSpec.ofChange graphWalksSpec)) graphWalksCard

/-- THE TIED CARD OF 'pursebearerlaw33.GraphAlone'. -/
def graphAloneCard : Claim7 := { stood := { row := graphAloneRow, standIns := [], harness := (true, "b261351877dbc6154e7d9dec5c418682182a709269a28bdc1ec3b79044498e45"), looks := false }, kinds := [], alts := [], laidByText := true, laidKinds := [.data, .pinned], laidTests := true, laidLooks := .later }
def GraphAloneCardSaid : Prop := Claim7.holds Tryz.pinned (.plain (OpenSpec.ofChange graphAloneSpec)) graphAloneCard

/-- THE TIED CARD OF 'pursebearerlaw33.GraphRuns'. -/
def graphRunsCard : Claim7 := { stood := { row := graphRunsRow, standIns := [], harness := (true, "b261351877dbc6154e7d9dec5c418682182a709269a28bdc1ec3b79044498e45"), looks := false }, kinds := [], alts := [], laidByText := true, laidKinds := [.data, .pinned], laidTests := true, laidLooks := .later }
def GraphRunsCardSaid : Prop := Claim7.holds Tryz.pinned (.plain (OpenSpec.ofChange graphRunsSpec)) graphRunsCard

/-- THE TIED CARD OF 'pursebearerlaw33.GraphCircles'. -/
def graphCirclesCard : Claim7 := { stood := { row := graphCirclesRow, standIns := [], harness := (true, "b261351877dbc6154e7d9dec5c418682182a709269a28bdc1ec3b79044498e45"), looks := false }, kinds := [], alts := [], laidByText := true, laidKinds := [.data, .pinned], laidTests := true, laidLooks := .later }
def GraphCirclesCardSaid : Prop := Claim7.holds Tryz.pinned (.plain (OpenSpec.ofChange graphCirclesSpec)) graphCirclesCard

/-- THE TIED CARD OF 'pursebearerlaw33.GraphEnds'. -/
def graphEndsCard : Claim7 := { stood := { row := graphEndsRow, standIns := [], harness := (true, "b261351877dbc6154e7d9dec5c418682182a709269a28bdc1ec3b79044498e45"), looks := false }, kinds := [], alts := [], laidByText := true, laidKinds := [.data, .pinned], laidTests := true, laidLooks := .later }
def GraphEndsCardSaid : Prop := Claim7.holds Tryz.pinned (.plain (OpenSpec.ofChange graphEndsSpec)) graphEndsCard

/-- THE SECOND FORM's CARD OF 'pursebearerlaw33.GraphKids'. -/
def graphKidsUptoCard : Claim7 := { stood := { row := graphKidsUptoRow, standIns := [], harness := (true, "b261351877dbc6154e7d9dec5c418682182a709269a28bdc1ec3b79044498e45"), looks := false }, kinds := [], alts := [], laidByText := true, laidKinds := [.data, .pinned], laidTests := true, laidLooks := .later }
def GraphKidsUptoCardSaid : Prop := Claim7.holds Tryz.pinned (.plain (OpenSpec.upto graphKidsSpec)) graphKidsUptoCard

/-- THE SECOND FORM's CARD OF 'pursebearerlaw33.GraphWalks'. -/
def graphWalksUptoCard : Claim7 := { stood := { row := graphWalksUptoRow, standIns := [], harness := (true, "b261351877dbc6154e7d9dec5c418682182a709269a28bdc1ec3b79044498e45"), looks := false }, kinds := [], alts := [], laidByText := true, laidKinds := [.data, .pinned], laidTests := true, laidLooks := .later }
def GraphWalksUptoCardSaid : Prop := Claim7.holds Tryz.pinned (.plain (OpenSpec.upto graphWalksSpec)) graphWalksUptoCard

/-- THE SECOND FORM's CARD OF 'pursebearerlaw33.GraphAlone'. -/
def graphAloneUptoCard : Claim7 := { stood := { row := graphAloneUptoRow, standIns := [], harness := (true, "b261351877dbc6154e7d9dec5c418682182a709269a28bdc1ec3b79044498e45"), looks := false }, kinds := [], alts := [], laidByText := true, laidKinds := [.data, .pinned], laidTests := true, laidLooks := .later }
def GraphAloneUptoCardSaid : Prop := Claim7.holds Tryz.pinned (.plain (OpenSpec.upto graphAloneSpec)) graphAloneUptoCard

/-- THE SECOND FORM's CARD OF 'pursebearerlaw33.GraphRuns'. -/
def graphRunsUptoCard : Claim7 := { stood := { row := graphRunsUptoRow, standIns := [], harness := (true, "b261351877dbc6154e7d9dec5c418682182a709269a28bdc1ec3b79044498e45"), looks := false }, kinds := [], alts := [], laidByText := true, laidKinds := [.data, .pinned], laidTests := true, laidLooks := .later }
def GraphRunsUptoCardSaid : Prop := Claim7.holds Tryz.pinned (.plain (OpenSpec.upto graphRunsSpec)) graphRunsUptoCard

/-- THE SECOND FORM's CARD OF 'pursebearerlaw33.GraphCircles'. -/
def graphCirclesUptoCard : Claim7 := { stood := { row := graphCirclesUptoRow, standIns := [], harness := (true, "b261351877dbc6154e7d9dec5c418682182a709269a28bdc1ec3b79044498e45"), looks := false }, kinds := [], alts := [], laidByText := true, laidKinds := [.data, .pinned], laidTests := true, laidLooks := .later }
def GraphCirclesUptoCardSaid : Prop := Claim7.holds Tryz.pinned (.plain (OpenSpec.upto graphCirclesSpec)) graphCirclesUptoCard

/-- THE SECOND FORM's CARD OF 'pursebearerlaw33.GraphEnds'. -/
def graphEndsUptoCard : Claim7 := { stood := { row := graphEndsUptoRow, standIns := [], harness := (true, "b261351877dbc6154e7d9dec5c418682182a709269a28bdc1ec3b79044498e45"), looks := false }, kinds := [], alts := [], laidByText := true, laidKinds := [.data, .pinned], laidTests := true, laidLooks := .later }
def GraphEndsUptoCardSaid : Prop := Claim7.holds Tryz.pinned (.plain (OpenSpec.upto graphEndsSpec)) graphEndsUptoCard
end Rows
end Go.Proofs.YtceaeiaoanhlnaaGreatDoor
