import Derived.Test.YtmpciohmljpncaaGreatDoorPcA
set_option maxRecDepth 100000
namespace Go.Proofs.Pc
open Go Go.Ev Go.Proofs
theorem p75 : piece (ev E1 C2 100000) runB (runF M0) [0, 1] 5 A75 71237 A80 75206 = true := by decide +kernel
theorem p80 : piece (ev E1 C2 100000) runB (runF M0) [0, 1] 5 A80 75206 A85 80241 = true := by decide +kernel
theorem p85 : piece (ev E1 C2 100000) runB (runF M0) [0, 1] 8 A85 80241 A93 85505 = true := by decide +kernel
theorem p93 : piece (ev E1 C2 100000) runB (runF M0) [0, 1] 7 A93 85505 A100 90111 = true := by decide +kernel
end Go.Proofs.Pc
