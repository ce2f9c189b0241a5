import Derived.Test.YtceaeiaoanhlnaaDoorGnKw
import Derived.Test.YtceaeiaoanhlnaaDoorZgw
namespace Go.Proofs.YtceaeiaoanhlnaaDoor
open Go.ChangeShapes Go.WideShapes Go.ChangeAt Go.RowKit Go.Lib Go.Shelf
/-- rules that are right, whatever made them -/
def Right (r : RuleD) : Prop := RuleFit r ∧ (∀ rates, 0 ≤ rates → rchk r rates = 0) ∧ isPath (bl r.path) = true
theorem right_core {r q : RuleD} (h : r.core = q) (hq : Right q) : Right r := by subst h; exact hq
theorem genR_Right (L : List Int) : Right (genR L) := ⟨genR_fit L, fun rates h => genR_right L rates h, by rw [genR_path, bl_pathA']; exact (pathN_path _).1⟩
theorem rules_right {Rs : List RuleD} {L : List Int} {k : Nat} (h : Rs.map RuleD.core = genRs L k) : ∀ r ∈ Rs, Right r := fun r hr => by
 have h1 : r.core ∈ genRs L k := by rw [← h]; exact List.mem_map.2 ⟨r, hr, rfl⟩
 obtain ⟨i, -, h2⟩ := List.mem_map.1 h1
 exact right_core h2.symm (genR_Right _)
theorem rules_len {Rs : List RuleD} {L : List Int} (h : Rs.map RuleD.core = genRs L (rulesN L)) : Rs.length ≤ 5 := by
 have := congrArg List.length h
 rw [genRs_len] at this
 have e : Rs.length = rulesN L := by simpa using this
 rw [e]
 unfold rulesN
 omega
theorem nerr_right {R : List RuleD} (h : ∀ r ∈ R, Right r) (hl : R.length ≤ 20) (rates : Int) (hr : 0 ≤ rates) : nerr R rates = 0 := nerr_all R rates (by omega) fun r hx => (h r hx).2.1 rates hr
end Go.Proofs.YtceaeiaoanhlnaaDoor
