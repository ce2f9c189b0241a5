import Derived.Test.YtmpciohmljpncaaGreatDoorTiA
import Derived.LaidByTextLater
import Derived.LaidOnce
namespace Go.Proofs.YtmpciohmljpncaaGreatDoor
open Go
set_option maxRecDepth 100000
theorem t7 : ∀ os tape, doorLeaves Tryz.prog 64 8 100 laids os tape = some (laids.filter fun x => x.2.handleName?.isNone, (funcsListed laids).map (·.2.funcsOut)) := fun _ _ => by kernel_rfl
end Go.Proofs.YtmpciohmljpncaaGreatDoor
