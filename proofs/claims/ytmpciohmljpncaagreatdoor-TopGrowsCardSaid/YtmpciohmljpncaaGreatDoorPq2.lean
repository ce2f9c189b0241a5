import Derived.Test.YtmpciohmljpncaaGreatDoorPcA
set_option maxRecDepth 100000
namespace Go.Proofs.Pc
open Go Go.Ev Go.Proofs
theorem p13 : piece (ev E1 C2 100000) runB (runF M0) [0, 1] 5 A13 23217 A18 27258 = true := by decide +kernel
theorem p18 : piece (ev E1 C2 100000) runB (runF M0) [0, 1] 6 A18 27258 A24 32554 = true := by decide +kernel
theorem p24 : piece (ev E1 C2 100000) runB (runF M0) [0, 1] 7 A24 32554 A31 37251 = true := by decide +kernel
theorem p31 : piece (ev E1 C2 100000) runB (runF M0) [0, 1] 7 A31 37251 A38 41934 = true := by decide +kernel
end Go.Proofs.Pc
