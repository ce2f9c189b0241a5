import Derived.Test.YtmpciohmljpncaaGreatDoorPcA
set_option maxRecDepth 100000
namespace Go.Proofs.Pc
open Go Go.Ev Go.Proofs
theorem p0 : piece (ev E1 C2 100000) runB (runF M0) [0, 1] 6 A0 10416 A6 15195 = true := by decide +kernel
theorem p6 : piece (ev E1 C2 100000) runB (runF M0) [0, 1] 4 A6 15195 A10 18124 = true := by decide +kernel
theorem p10 : piece (ev E1 C2 100000) runB (runF M0) [0, 1] 1 A10 18124 A11 21096 = true := by decide +kernel
theorem p11 : piece (ev E1 C2 100000) runB (runF M0) [0, 1] 2 A11 21096 A13 23217 = true := by decide +kernel
end Go.Proofs.Pc
