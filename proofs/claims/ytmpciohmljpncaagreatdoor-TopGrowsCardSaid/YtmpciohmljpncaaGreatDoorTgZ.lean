import Derived.Test.YtmpciohmljpncaaGreatDoorZtg
import Derived.Test.YtmpciohmljpncaaGreatDoorZcy
import Derived.Test.YtmpciohmljpncaaGreatDoorZee
namespace Go.Proofs.YtmpciohmljpncaaGreatDoor
open Go.RowKit
theorem grows_all (L : List Int) (mo : Int) (v : Value) (w : World) (hm : MaxV w) (hs : Ints w v L) (hL : ∀ x ∈ L, I64 x) (hmo : I64 mo) :
  Calls Tryz.prog 3 #[v, .int .i64 mo] w fun e w' => e = .returned (.bool true) ∧ Ext w w' :=
 grows_any L mo v w hm hs hL hmo (conf_any L v w hs hL) (fun X => Go.Proofs.Pc.alive_true X)
end Go.Proofs.YtmpciohmljpncaaGreatDoor
