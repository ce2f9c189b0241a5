import Derived.Test.YtmpciohmljpncaaGreatDoorPcA
set_option maxRecDepth 100000
namespace Go.Proofs.Pc
open Go Go.Ev Go.Proofs
theorem p100 : piece (ev E1 C2 100000) runB (runF M0) [0, 1] 7 A100 90111 A107 94785 = true := by decide +kernel
theorem p107 : piece (ev E1 C2 100000) runB (runF M0) [0, 1] 8 A107 94785 A115 100049 = true := by decide +kernel
theorem p115 : piece (ev E1 C2 100000) runB (runF M0) [0, 1] 8 A115 100049 A123 105313 = true := by decide +kernel
theorem p123 : piece (ev E1 C2 100000) runB (runF M0) [0, 1] 8 A123 105313 A131 110577 = true := by decide +kernel
end Go.Proofs.Pc
