
/- The reference's Check of a rule's rewriting (printed from RtB's walk, and turned). -/
import Derived.Test.YtlaaapfpchnmeaaGreatDoorRtB
namespace Go.Proofs.YtlaaapfpchnmeaaGreatDoor
open Go.ChangeShapes Go.WideShapes Go.ChangeAt Go.RowKit Go.Lib Go.Shelf
end Go.Proofs.YtlaaapfpchnmeaaGreatDoor
