import Derived.Test.YtceaeiaoanhlnaaDoorZr
import Derived.Sort.WalkA
import Derived.Test.YtceaeiaoanhlnaaDoorZa
namespace Go.Proofs.YtceaeiaoanhlnaaDoor
open Go.ChangeShapes Go.WideShapes Go.ChangeAt Go.RowKit Go.Lib Go.Shelf
theorem flat_get (l : List Int) (i : Nat) : (l.flatMap encI)[i]? = (l[i]?).map (Value.int .i64) := by
 have : l.flatMap encI = l.map (Value.int .i64) := by
  induction l with
  | nil => rfl
  | cons x l ih => simp [encI] at ih ⊢; exact ih
 rw [this, List.getElem?_map]
end Go.Proofs.YtceaeiaoanhlnaaDoor
