import Derived.Test.YtmpciohmljpncaaGreatDoorPcA
set_option maxRecDepth 100000
namespace Go.Proofs.Pc
open Go Go.Ev Go.Proofs
theorem p131 : piece (ev E1 C2 100000) runB (runF M0) [0, 1] 8 A131 110577 A139 115841 = true := by decide +kernel
theorem p139 : piece (ev E1 C2 100000) runB (runF M0) [0, 1] 8 A139 115841 A147 121105 = true := by decide +kernel
theorem p147 : piece (ev E1 C2 100000) runB (runF M0) [0, 1] 7 A147 121105 A154 125801 = true := by decide +kernel
theorem p154 : piece (ev E1 C2 100000) runB (runF M0) [0, 1] 8 A154 125801 A162 131065 = true := by decide +kernel
end Go.Proofs.Pc
