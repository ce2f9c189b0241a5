/- Merged texts (GrA). -/
import Derived.Test.YtceaeiaoanhlnaaGreatDoorZgte
import Derived.StillTailTactics
import Derived.Deep.CutRange
import Derived.Test.YtceaeiaoanhlnaaGreatDoorZmhe
import Derived.Test.YtceaeiaoanhlnaaGreatDoorZbe
import Derived.Test.YtceaeiaoanhlnaaGreatDoorZrle
import Derived.Test.YtceaeiaoanhlnaaGreatDoorZrwe
namespace Go.Proofs.YtceaeiaoanhlnaaGreatDoor
open Go.ChangeShapes Go.WideShapes Go.ChangeAt Go.RowKit Go.Lib Go.Shelf
theorem cell_ext {w X : World} (hX : Ext w X) {g o : Nat} {u : Value} (h : w.cell? ⟨g, o, none⟩ = some u) : X.cell? ⟨g, o, none⟩ = some u := by
 have h1 := hX.block g (World.block_lt_of_cell? w _ h)
 simp only [World.cell?] at h ⊢
 rw [h1]
 exact h
/-- each rule's path is one -/
theorem chk_paths {c : ConfD} (h : chkC c = 0) (hf : ConfFit c) : ∀ r ∈ c.R, r.path.size ≤ 9223372036854775807 ∧ isPath (bl r.path) = true := fun r hr => by
 refine ⟨(hf.2.2.1 r hr).1.1, ?_⟩
 have h1 := chk_rule h hr
 unfold rchk at h1
 split at h1
 ·rename_i hm
  exact absurd h1 hm
 ·rename_i hm
  have hm' : mchk (bl r.path) r.H = 0 := Classical.not_not.1 hm
  unfold mchk at hm'
  split at hm'
  ·assumption
  ·cases hm'
end Go.Proofs.YtceaeiaoanhlnaaGreatDoor
