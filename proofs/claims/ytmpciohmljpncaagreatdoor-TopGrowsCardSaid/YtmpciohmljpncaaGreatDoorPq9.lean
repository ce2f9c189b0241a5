import Derived.Test.YtmpciohmljpncaaGreatDoorPcA
set_option maxRecDepth 100000
namespace Go.Proofs.Pc
open Go Go.Ev Go.Proofs
theorem p194 : piece (ev E1 C2 100000) runB (runF M0) [0, 1] 6 A194 152121 A200 156069 = true := by decide +kernel
end Go.Proofs.Pc
