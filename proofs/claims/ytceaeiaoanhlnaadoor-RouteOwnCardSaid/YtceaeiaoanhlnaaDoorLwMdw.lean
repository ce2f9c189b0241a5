import Derived.Test.YtceaeiaoanhlnaaDoorLwPw
import Derived.Test.YtceaeiaoanhlnaaDoorLiAw
namespace Go.Proofs.YtceaeiaoanhlnaaDoor
open Go.ChangeShapes Go.WideShapes Go.ChangeAt Go.RowKit Go.Lib Go.Shelf
/-- what made tells: a table of rules that are right, and these; all rows of these lie below those of the table -/
def MadeP (L : List Int) (w : World) (e : Ending) (w' : World) : Prop :=
 ∃ (b : Nat) (v1 : Value) (Rs Rs2 : List RuleD) (B : Nat), e = .returned (.tuple #[.pointer (some ⟨b, 0, none⟩), v1]) ∧ Rs.map RuleD.core = genRs L (rulesN L) ∧ w.heap.size ≤ B ∧ w'.ownsRow w.heap.size 43 19 v1 Rs.length (Rs.flatMap encR) ∧
  (∀ g, v1.ownBlock = some g → g < B) ∧ (∀ r ∈ Rs, RuleOwn w.heap.size w' r) ∧ (∀ r ∈ Rs, ∀ g, r.has g → g < B) ∧ TabAt B w' b Rs2 (rowR Rs2) ∧ Rs2.map RuleD.core = Rs.map RuleD.core ∧ Ext w w'
set_option maxRecDepth 100000 in
set_option maxHeartbeats 8000000 in
theorem made_any (L : List Int) (v : Value) (w : World) (hs : Ints w v L) (hL : ∀ x ∈ L, I64 x) (hm : MaxV w) :
  Calls Tryd.prog 6 #[v] w (MadeP L w) := by
 obtain ⟨_, a, c, rfl⟩ := hs.shape
 have HRULES := hide (rules_any L _ w hs hL)
 have HM := hide hm
 clear hs hL hm
 go_enter Tryd.func6, Tryd.ntmps6
 go_wp2_with fail
 refine HRULES.out.mono ?_
 rintro e w1 ⟨v1, Rs, rfl, hcore, hown1, hros, E1⟩
 have hlen5 := rules_len hcore
 have hright := rules_right hcore
 obtain ⟨xa, xc, rfl⟩ := owns_shape hown1
 have hsl : Rules w1 (.slice xa Rs.length xc) Rs := Sl.of_own' encR_len hown1
 have hne : nerr Rs 0 = 0 := nerr_right hright (by omega) 0 (by omega)
 have hnew := hnew_any Rs 0 _ w1 hsl (fun r hr => ⟨(hros r hr).ok, (hright r hr).1⟩) (HM.out.ext E1)
 simp only [hne] at hnew
 have HNEW := hide hnew
 have HO := hide hown1
 have HRO := hide hros
 have HC := hide hcore
 have HE1 := hide E1
 clear hnew hown1 hros hcore E1 hsl hne hright HRULES
 go_wp2_with fail
 refine HNEW.out.mono ?_
 rintro e w8 ⟨E8, ⟨h, _⟩ | ⟨_, b2, Rs2, rfl, hT, hRs⟩⟩
 ·exact absurd rfl h
 rw [← rowR_core hRs] at hT
 have HT := hide hT
 have HRS := hide hRs
 have HE8 := hide E8
 clear hT hRs E8 HNEW
 go_wp2
 go_ret2
 exact ⟨b2, _, Rs, Rs2, w1.heap.size, rfl, HC.out, HE1.out.size, owns_ext HO.out HE8.out, fun g hg => (HO.out.lt g hg).2, fun r hr => (HRO.out r hr).ext HE8.out, fun r hr g hg => ((HRO.out r hr).ge hg).2, HT.out, HRS.out, HE1.out.trans HE8.out⟩
end Go.Proofs.YtceaeiaoanhlnaaDoor
