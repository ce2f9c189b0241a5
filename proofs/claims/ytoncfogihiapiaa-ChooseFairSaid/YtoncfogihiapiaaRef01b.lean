
/- pursebearerref01.SameInts. -/
import Derived.Test.YtoncfogihiapiaaRef01
namespace Go.Proofs.Ytoncfogihiapiaa
open Go.ChangeShapes Go.WideShapes Go.ChangeAt Go.RowKit
def sameInts (xs ys : List Int) : Bool := decide (xs = ys)
end Go.Proofs.Ytoncfogihiapiaa
