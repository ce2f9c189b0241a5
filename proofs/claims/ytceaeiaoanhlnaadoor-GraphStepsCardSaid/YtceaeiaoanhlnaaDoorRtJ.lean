import Derived.Test.YtceaeiaoanhlnaaDoorZr
import Derived.Test.YtceaeiaoanhlnaaDoorRtK
namespace Go.Proofs.YtceaeiaoanhlnaaDoor
open Go.ChangeShapes Go.WideShapes Go.ChangeAt Go.RowKit Go.Lib Go.Shelf
theorem nerr_all (R : List RuleD) (rates : Int) (h20 : ¬ 20 < R.length) (h : ∀ x ∈ R, rchk x rates = 0) : nerr R rates = 0 := by
 unfold nerr
 rw [if_neg h20]
 have hn : (R.map (rchk · rates)).find? (· != 0) = none := by
  rw [List.find?_eq_none]
  intro x hx
  obtain ⟨y, hy, rfl⟩ := List.mem_map.1 hx
  simp [h y hy]
 rw [hn]
 rfl
theorem Tryd.infoI : (Tryd.prog.info? 3).map (fun i => (i.zero, i.size, i.bytes)) = some (some (.int .i64 0), 1, 8) := by kernel_rfl
end Go.Proofs.YtceaeiaoanhlnaaDoor
