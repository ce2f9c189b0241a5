/- Merged texts (PcZ, WkAlive). -/
import Derived.Test.YtmpciohmljpncaaGreatDoorPcA
import Derived.Test.YtmpciohmljpncaaGreatDoorZed
import Derived.Test.YtmpciohmljpncaaGreatDoorPcN
import Derived.Test.YtmpciohmljpncaaGreatDoorPq1
import Derived.Test.YtmpciohmljpncaaGreatDoorPq2
import Derived.Test.YtmpciohmljpncaaGreatDoorPq3
import Derived.Test.YtmpciohmljpncaaGreatDoorPq4
import Derived.Test.YtmpciohmljpncaaGreatDoorPq5
import Derived.Test.YtmpciohmljpncaaGreatDoorPq6
import Derived.Test.YtmpciohmljpncaaGreatDoorPq7
import Derived.Test.YtmpciohmljpncaaGreatDoorPq8
import Derived.Test.YtmpciohmljpncaaGreatDoorPq9
set_option linter.unusedSectionVars false
set_option linter.unusedSimpArgs false
set_option linter.unusedVariables false
set_option linter.unnecessarySimpa false
set_option linter.deprecated false
set_option maxRecDepth 100000
namespace Go.Proofs.Pc
open Go Go.Ev Go.Proofs
noncomputable def C3 : Cons := fun f => cond (Nat.beq f 19) (some (at1 NA N0 1010 [(NV, lit A0 10416)])) (cond (Nat.beq f 20) (some (at1 [M0, .g (.int .i64 200)] A0 10416 [(.tuple [], lit A200 156069)])) (C2 f))
theorem pend : endsAt E1 (ev E1 C2 100000) 0 runB Tryz.f20 (runF M0) A200 156069 (.tuple []) A200 156069 = true := by decide +kernel
theorem pall : allTo (evCall E1 C3 100000) 7 1000 (.g (.bool true)) = true := by decide +kernel
end Go.Proofs.Pc
set_option maxRecDepth 100000
namespace Go.Proofs.Pc
open Go Go.Ev Go.Proofs
theorem runF_get (m : AV) (t : Nat) (v : AV) (h : (runF m).t.get t = some v) : t ∈ [0, 1] := by
 have h : ((T.leaf.set 0 m).set 1 (.g (.int .i64 200))).get t = some v := h
 rw [T.get_set, T.get_set, T.get_leaf] at h
 by_cases h1 : t = 1
 ·simp [h1]
 ·by_cases h0 : t = 0
  ·simp [h0]
  ·rw [if_neg h1, if_neg h0] at h; cases h
theorem allRounds : Goes E1 runB (runF M0) (lit A0 10416) (lit A200 156069) :=
 have k {n : Nat} {A B : List (Nat × ABlk)} {na nb : Nat} (h : piece (ev E1 C2 100000) runB (runF M0) [0, 1] n A na B nb = true) : Goes E1 runB (runF M0) (lit A na) (lit B nb) := piece_ok ((ev_ok E1_ok C2_ok 100000).1 runB) (runF_get M0) rfl h
 (k p0).trans <| (k p6).trans <| (k p10).trans <| (k p11).trans <| (k p13).trans <| (k p18).trans <| (k p24).trans <| (k p31).trans <| (k p38).trans <| (k p45).trans <| (k p52).trans <| (k p59).trans <| (k p66).trans <| (k p69).trans <| (k p72).trans <| (k p73).trans <| (k p75).trans <| (k p80).trans <| (k p85).trans <| (k p93).trans <| (k p100).trans <| (k p107).trans <| (k p115).trans <| (k p123).trans <| (k p131).trans <| (k p139).trans <| (k p147).trans <| (k p154).trans <| (k p162).trans <| (k p170).trans <| (k p178).trans <| (k p186).trans <| k p194
theorem run_ok : ∀ ι w vs, HRel ι (lit A0 10416) w → relL ι [M0, .g (.int .i64 200)] vs → CallOk E1 20 vs ι (lit A0 10416) w [(.tuple [], lit A200 156069)] :=
 loop_call E1_ok C2_ok (fnAt Tryz.func20) rfl rfl allRounds pend
theorem C3_ok : ConsOk (E := E1) C3 :=
 cons_step (at1_ok (runsTo_ok (evCall_ok E1_ok C2_ok 100000) pnew)) <| cons_step (at1_ok run_ok) C2_ok
/-- alive() is true, whatever world it is called in, and leaves what lay -/
theorem alive_true (w : World) : Calls Tryz.prog 7 #[] w fun e w' => e = .returned (.bool true) ∧ Go.RowKit.Below w.heap.size w w' := by
 rcases allTo_ok (evCall_ok E1_ok C3_ok 100000) pall (fun ι x h => h.1) w with ⟨w', h1, _⟩ | ⟨_, h2⟩
 ·have h := enters_of Tryz.func7 (by kernel_rfl) rfl (#[] : Array Value) w
  have h1 : (callFunc 7 #[]).run Tryz.prog w = _ := h1
  rw [h] at h1; cases h1
 ·exact h2
end Go.Proofs.Pc
