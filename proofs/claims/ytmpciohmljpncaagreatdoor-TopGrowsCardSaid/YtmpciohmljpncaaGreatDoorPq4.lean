import Derived.Test.YtmpciohmljpncaaGreatDoorPcA
set_option maxRecDepth 100000
namespace Go.Proofs.Pc
open Go Go.Ev Go.Proofs
theorem p66 : piece (ev E1 C2 100000) runB (runF M0) [0, 1] 3 A66 61116 A69 63879 = true := by decide +kernel
theorem p69 : piece (ev E1 C2 100000) runB (runF M0) [0, 1] 3 A69 63879 A72 66248 = true := by decide +kernel
theorem p72 : piece (ev E1 C2 100000) runB (runF M0) [0, 1] 1 A72 66248 A73 69118 = true := by decide +kernel
theorem p73 : piece (ev E1 C2 100000) runB (runF M0) [0, 1] 2 A73 69118 A75 71237 = true := by decide +kernel
end Go.Proofs.Pc
