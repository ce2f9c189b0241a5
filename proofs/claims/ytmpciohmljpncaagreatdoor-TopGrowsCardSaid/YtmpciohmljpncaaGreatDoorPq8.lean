import Derived.Test.YtmpciohmljpncaaGreatDoorPcA
set_option maxRecDepth 100000
namespace Go.Proofs.Pc
open Go Go.Ev Go.Proofs
theorem p162 : piece (ev E1 C2 100000) runB (runF M0) [0, 1] 8 A162 131065 A170 136329 = true := by decide +kernel
theorem p170 : piece (ev E1 C2 100000) runB (runF M0) [0, 1] 8 A170 136329 A178 141593 = true := by decide +kernel
theorem p178 : piece (ev E1 C2 100000) runB (runF M0) [0, 1] 8 A178 141593 A186 146857 = true := by decide +kernel
theorem p186 : piece (ev E1 C2 100000) runB (runF M0) [0, 1] 8 A186 146857 A194 152121 = true := by decide +kernel
end Go.Proofs.Pc
