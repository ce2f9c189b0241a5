
/- fix.Up, the references' Up and Down, both caps. -/
import Derived.Test.YtoncfogihiapiaaRef01
namespace Go.Proofs.Ytoncfogihiapiaa
open Go.ChangeShapes Go.WideShapes Go.ChangeAt Go.RowKit
/-- a quotient, rounded up -/
def upI (a b : Int) : Int := if 0 < a % b then a / b + 1 else a / b
def capI (all n p : Int) : Int := upI ((all + 1) * p) (100 * n)
theorem div_bd (a b : Int) (ha : 0 ≤ a ∧ a ≤ 4611686018427387904) (hb : 1 ≤ b) : 0 ≤ a / b ∧ a / b ≤ 4611686018427387904 :=
  ⟨Int.ediv_nonneg ha.1 (by omega), Int.le_trans (Int.ediv_le_self b ha.1) ha.2⟩
set_option maxHeartbeats 400000 in
theorem fixUp_any (a b : Int) (w : World) (ha : 0 ≤ a ∧ a ≤ 4611686018427387904) (hb : 1 ≤ b ∧ b ≤ 9223372036854775807) :
    Calls Try.prog 58 #[.int .i64 a, .int .i64 b] w fun e w' => e = .returned (.int .i64 (upI a b)) ∧ w = w' := by
  have h1 : a.tdiv b = a / b := Int.tdiv_eq_ediv_of_nonneg ha.1
  have h2 : a.tmod b = a % b := Int.tmod_eq_emod_of_nonneg ha.1
  have h3 := div_bd a b ha hb.1
  have h4 : upI a b = if 0 < a % b then a / b + 1 else a / b := rfl
  have h5 := Int.emod_nonneg a (show b ≠ 0 by omega)
  have h6 := Int.emod_lt_of_pos a (show 0 < b by omega)
  obtain ⟨q, hq⟩ : ∃ q, a / b = q := ⟨_, rfl⟩
  obtain ⟨r, hr⟩ : ∃ r, a % b = r := ⟨_, rfl⟩
  rw [hq] at h1 h3 h4
  rw [hr] at h2 h4 h5 h6
  by_cases h : 0 < r
  · rw [if_pos h] at h4
    have H4 := hide h4
    clear h4 hq hr
    go_enter Try.func58, Try.ntmps58
    go_wp2
    go_ret
    exact ⟨ret_int H4.out.symm, rfl⟩
  · rw [if_neg h] at h4
    have H4 := hide h4
    clear h4 hq hr
    go_enter Try.func58, Try.ntmps58
    go_wp2
    go_ret
    exact ⟨ret_int H4.out.symm, rfl⟩
theorem mul_bd (a p : Int) (ha : 0 ≤ a ∧ a ≤ 4000000000000000) (hp : 0 ≤ p ∧ p ≤ 1100) : 0 ≤ a * p ∧ a * p ≤ 4400000000000000000 :=
  ⟨Int.mul_nonneg ha.1 hp.1, by have := Int.mul_le_mul ha.2 hp.2 hp.1 (by omega : (0:Int) ≤ 4000000000000000); omega⟩
set_option maxHeartbeats 400000 in
theorem cap_any (all n p : Int) (w : World) (ha : 0 ≤ all ∧ all < 4000000000000000) (hn : 1 ≤ n ∧ n ≤ 1000000) (hp : 0 ≤ p ∧ p ≤ 1100) :
    Calls Try.prog 44 #[.int .i64 all, .int .i64 n, .int .i64 p] w fun e w' => e = .returned (.int .i64 (capI all n p)) ∧ w = w' := by
  have hb := mul_bd (all + 1) p (by omega) hp
  have hu : ∀ u : World, Calls Try.prog 58 #[.int .i64 ((all + 1) * p), .int .i64 (100 * n)] u fun e w' => e = .returned (.int .i64 (capI all n p)) ∧ u = w' := fun u => fixUp_any _ _ u (by omega) (by omega)
  have HU := hide hu
  clear hu
  go_enter Try.func44, Try.ntmps44
  go_wp2_with fail
  refine (HU.out _).mono ?_
  rintro e w' ⟨rfl, rfl⟩
  go_wp2
  go_ret
  exact ⟨rfl, rfl⟩
end Go.Proofs.Ytoncfogihiapiaa
