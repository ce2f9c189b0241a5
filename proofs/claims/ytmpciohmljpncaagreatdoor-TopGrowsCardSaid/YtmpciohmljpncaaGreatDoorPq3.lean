import Derived.Test.YtmpciohmljpncaaGreatDoorPcA
set_option maxRecDepth 100000
namespace Go.Proofs.Pc
open Go Go.Ev Go.Proofs
theorem p38 : piece (ev E1 C2 100000) runB (runF M0) [0, 1] 7 A38 41934 A45 46617 = true := by decide +kernel
theorem p45 : piece (ev E1 C2 100000) runB (runF M0) [0, 1] 7 A45 46617 A52 51390 = true := by decide +kernel
theorem p52 : piece (ev E1 C2 100000) runB (runF M0) [0, 1] 7 A52 51390 A59 56073 = true := by decide +kernel
theorem p59 : piece (ev E1 C2 100000) runB (runF M0) [0, 1] 7 A59 56073 A66 61116 = true := by decide +kernel
end Go.Proofs.Pc
