import Derived.Test.YtmpciohmljpncaaGreatDoorPcA
set_option maxRecDepth 100000
namespace Go.Proofs.Pc
open Go Go.Ev Go.Proofs
theorem pnew : runsTo (evCall E1 C2 100000) 19 NA N0 1010 NV A0 10416 = true := by decide +kernel
end Go.Proofs.Pc
