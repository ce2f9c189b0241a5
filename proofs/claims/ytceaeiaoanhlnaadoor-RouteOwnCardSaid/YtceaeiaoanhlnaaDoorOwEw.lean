import Derived.Test.YtceaeiaoanhlnaaDoorOwDw
import Derived.Test.YtceaeiaoanhlnaaDoorOwBw
import Derived.Test.YtceaeiaoanhlnaaDoorLwMdw
namespace Go.Proofs.YtceaeiaoanhlnaaDoor
open Go.ChangeShapes Go.WideShapes Go.ChangeAt Go.RowKit Go.Lib Go.Shelf
theorem core_same {r r' : RuleD} (h : r'.core = r.core) : Same r r' := by
 refine ⟨r'.hv, r'.pv, r'.sv, r'.dv, ?_⟩
 obtain ⟨path, ex, hv, H, pv, P, mi, ab, de, ti, pre, sv, S, dv, D, q0, q1, q2, q3, q4, q5, q6, rate⟩ := r
 obtain ⟨path', ex', hv', H', pv', P', mi', ab', de', ti', pre', sv', S', dv', D', q0', q1', q2', q3', q4', q5', q6', rate'⟩ := r'
 simp only [RuleD.core, RuleD.mk.injEq] at h ⊢
 simp_all
theorem same_trans {r r' r'' : RuleD} (h : Same r r') (k : Same r r'') : Same r' r'' := core_same ((k.core).trans (h.core).symm)
theorem fits_two (a b x y : Int) (hx : 0 ≤ x ∧ x ≤ 100) (hy : 0 ≤ y ∧ y ≤ 100) : Sp.SumFits [(a, x), (b, y)] := by
 intro k hk
 have hk : k ≤ 2 := hk
 rcases k with _ | _ | _ | k
 ·simp [Sp.sumW]
 ·simp [Sp.sumW]; omega
 ·simp [Sp.sumW]; omega
 ·omega
theorem fits_one (a x : Int) (hx : 0 ≤ x ∧ x ≤ 100) : Sp.SumFits [(a, x)] := by
 intro k hk
 have hk : k ≤ 1 := hk
 rcases k with _ | _ | k
 ·simp [Sp.sumW]
 ·simp [Sp.sumW]; omega
 ·omega
/-- what rules made of numbers bear -/
structure Mild (r : RuleD) : Prop where
 path : r.path.size ≤ 62
 pre : r.pre.size ≤ 62
 sum : Sp.SumFits r.P
 len : r.H.length ≤ 1000000 ∧ r.P.length ≤ 1000000 ∧ r.S.length ≤ 1000000 ∧ r.D.length ≤ 1000000
theorem genR_mild (L : List Int) : Mild (genR L) := by
 refine ⟨by rw [genR_path]; exact Nat.le_trans (pathA_size _) (by decide), ?_, ?_, rchk_small _ 0 (genR_fit L) (genR_right L 0 (by omega))⟩
 ·rw [genR_pre]
  split
  ·exact Nat.le_trans (pathA_size _) (by decide)
  ·show 0 ≤ 62; omega
 ·rw [genR_P]
  have := kN_bd L 3
  split
  ·exact fits_two _ _ _ _ (by omega) (by omega)
  ·exact fits_one _ _ (by omega)
theorem Mild.core {r q : RuleD} (h : r.core = q) (hq : Mild q) : Mild r := by
 subst h
 exact ⟨hq.1, hq.2, hq.3, hq.4⟩
theorem Mild.of {r r' : RuleD} (h : r'.core = r.core) (hm : Mild r) : Mild r' := by
 have h1 : r'.core.path = r.core.path := congrArg RuleD.path h
 have h1 : r'.path = r.path := h1
 have h2 : r'.core.pre = r.core.pre := congrArg RuleD.pre h
 have h2 : r'.pre = r.pre := h2
 have h3 : r'.core.P = r.core.P := congrArg RuleD.P h
 have h3 : r'.P = r.P := h3
 have h4 : r'.core.H = r.core.H := congrArg RuleD.H h
 have h4 : r'.H = r.H := h4
 have h5 : r'.core.S = r.core.S := congrArg RuleD.S h
 have h5 : r'.S = r.S := h5
 have h6 : r'.core.D = r.core.D := congrArg RuleD.D h
 have h6 : r'.D = r.D := h6
 exact ⟨by rw [h1]; exact hm.path, by rw [h2]; exact hm.pre, by rw [h3]; exact hm.sum, by rw [h3, h4, h5, h6]; exact hm.len⟩
theorem rules_mild {Rs : List RuleD} {L : List Int} {k : Nat} (h : Rs.map RuleD.core = genRs L k) : ∀ r ∈ Rs, Mild r := fun r hr => by
 have h1 : r.core ∈ genRs L k := by rw [← h]; exact List.mem_map.2 ⟨r, hr, rfl⟩
 obtain ⟨i, -, h2⟩ := List.mem_map.1 h1
 exact (genR_mild _).core h2.symm
theorem core_at {Rs Rs' : List RuleD} (h : Rs'.map RuleD.core = Rs.map RuleD.core) (i : Nat) (hi : i < Rs.length) : ∃ hi' : i < Rs'.length, Rs'[i].core = Rs[i].core := by
 have hl : Rs'.length = Rs.length := by simpa using congrArg List.length h
 refine ⟨by omega, ?_⟩
 have := congrArg (fun l => l[i]?) h
 simpa [List.getElem?_map, List.getElem?_eq_getElem hi, List.getElem?_eq_getElem (show i < Rs'.length by omega)] using this
end Go.Proofs.YtceaeiaoanhlnaaDoor
