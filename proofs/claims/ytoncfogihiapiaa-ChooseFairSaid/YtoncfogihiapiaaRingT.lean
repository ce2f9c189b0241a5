
/- without. -/
import Derived.Test.YtoncfogihiapiaaRingL
namespace Go.Proofs.Ytoncfogihiapiaa
open Go.ChangeShapes Go.WideShapes Go.ChangeAt Go.RowKit Go.Sort Go.Shelf
def wo (l : List Int) (n : Int) : List Int := l.filter (fun x => x != n)
theorem wo_succ (l : List Int) (n : Int) (k : Nat) (h : k < l.length) : wo (l.take (k+1)) n = if l[k] = n then wo (l.take k) n else wo (l.take k) n ++ [l[k]] := by
  unfold wo
  rw [take_snoc l k h, List.filter_append]
  by_cases e : l[k] = n
  · rw [if_pos e]; simp [e]
  · rw [if_neg e]; simp [e]
end Go.Proofs.Ytoncfogihiapiaa
