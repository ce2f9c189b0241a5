/- BoundCaps: the walk. -/
import Derived.Test.YtfmoiepjbkhjfaaBndG
namespace Go.Proofs.Ytfmoiepjbkhjfaa
open Go.ChangeShapes Go.WideShapes Go.ChangeAt Go.RowKit Go.Maps Go.Shelf
theorem up_le (a b n : Int) (hb : 0 < b) : upI a b ≤ n ↔ a ≤ n * b := by
  have h1 := Int.mul_ediv_add_emod a b
  have h2 := Int.emod_nonneg a (show b ≠ 0 by omega)
  have h3 := Int.emod_lt_of_pos a hb
  have hc : b * (a / b) = (a / b) * b := Int.mul_comm _ _
  unfold upI
  constructor
  · intro h
    by_cases hr : 0 < a % b
    · rw [if_pos hr] at h
      have e := Int.mul_le_mul_of_nonneg_right h (show 0 ≤ b by omega)
      rw [Int.add_mul] at e
      omega
    · rw [if_neg hr] at h
      have e := Int.mul_le_mul_of_nonneg_right h (show 0 ≤ b by omega)
      omega
  · intro h
    by_cases hr : 0 < a % b
    · rw [if_pos hr]
      have : (a / b) * b < n * b := by omega
      have := Int.lt_of_mul_lt_mul_right this (show 0 ≤ b by omega)
      omega
    · rw [if_neg hr]
      have : (a / b) * b ≤ n * b := by omega
      exact Int.le_of_mul_le_mul_right this hb
theorem up_ge (a b : Int) (hb : 0 < b) : a ≤ upI a b * b := (up_le a b _ hb).1 (Int.le_refl _)
theorem up_lt (a b : Int) (hb : 0 < b) : upI a b * b < a + b := by
  have h1 := Int.mul_ediv_add_emod a b
  have h3 := Int.emod_lt_of_pos a hb
  have h2 := Int.emod_nonneg a (show b ≠ 0 by omega)
  have hc : b * (a / b) = (a / b) * b := Int.mul_comm _ _
  unfold upI
  by_cases hr : 0 < a % b
  · rw [if_pos hr, Int.add_mul]; omega
  · rw [if_neg hr]; omega
theorem up_nonneg (a b : Int) (ha : 0 ≤ a) (hb : 0 < b) : 0 ≤ upI a b := by
  have := Int.ediv_nonneg ha (show 0 ≤ b by omega)
  unfold upI; split <;> omega
theorem up_mono (a a' b : Int) (hb : 0 < b) (h : a ≤ a') : upI a b ≤ upI a' b := (up_le a b _ hb).2 (Int.le_trans h (up_ge a' b hb))
theorem up_anti (a b b' : Int) (ha : 0 ≤ a) (hb : 0 < b) (h : b ≤ b') : upI a b' ≤ upI a b :=
  (up_le a b' _ (by omega)).2 (Int.le_trans (up_ge a b hb) (Int.mul_le_mul_of_nonneg_left h (up_nonneg a b ha hb)))
theorem cap_bd (a k p : Int) (ha : 0 ≤ a ∧ a < 2147483648) (hk : 1 ≤ k ∧ k ≤ 1000) (hp : 100 ≤ p ∧ p ≤ 1000) :
    a < capI a k p * k ∧ 1 ≤ capI a k p ∧ capI a k p * k ≤ 100000000000 ∧ capI a k p ≤ 100000000000 := by
  unfold capI
  have h0 : 0 ≤ (a + 1) * p := Int.mul_nonneg (by omega) (by omega)
  have h1 := up_ge ((a + 1) * p) (100 * k) (by omega)
  have h2 := up_lt ((a + 1) * p) (100 * k) (by omega)
  have h3 := up_nonneg ((a + 1) * p) (100 * k) h0 (by omega)
  have h4 : (a + 1) * 100 ≤ (a + 1) * p := Int.mul_le_mul_of_nonneg_left hp.1 (by omega)
  have h5 : (a + 1) * p ≤ (a + 1) * 1000 := Int.mul_le_mul_of_nonneg_left hp.2 (by omega)
  obtain ⟨c, hc⟩ : ∃ c, upI ((a + 1) * p) (100 * k) = c := ⟨_, rfl⟩
  rw [hc] at h1 h2 h3 ⊢
  have e : c * (100 * k) = 100 * (c * k) := by rw [Int.mul_left_comm]
  rw [e] at h1 h2
  obtain ⟨d, hd⟩ : ∃ d, c * k = d := ⟨_, rfl⟩
  have h6 : c * 1 ≤ c * k := Int.mul_le_mul_of_nonneg_left hk.1 h3
  rw [hd] at h1 h2 h6 ⊢
  have h7 : 1 ≤ c := by
    rcases Int.lt_or_le c 1 with h | h
    · have : c = 0 := by omega
      rw [this] at hd; simp at hd; omega
    · exact h
  exact ⟨by omega, h7, by omega, by omega⟩
theorem cap_prev (a k p : Int) (hk : 1 ≤ k) (hp : 0 ≤ p) : capI (a - 1) k p ≤ capI a k p := by
  unfold capI
  exact up_mono _ _ _ (by omega) (Int.mul_le_mul_of_nonneg_right (by omega) hp)
theorem cap_more (a k p : Int) (ha : 0 ≤ a) (hk : 1 ≤ k) (hp : 0 ≤ p) : capI a (k + 1) p ≤ capI a k p := by
  unfold capI
  exact up_anti _ _ _ (Int.mul_nonneg (by omega) hp) (by omega) (by omega)
theorem cap_percent (a k p : Int) (ha : 0 ≤ a) (hk : 1 ≤ k) : capI a k p ≤ capI a k (p + 1) := by
  unfold capI
  exact up_mono _ _ _ (by omega) (Int.mul_le_mul_of_nonneg_left (by omega) (by omega))
set_option maxRecDepth 100000 in
set_option maxHeartbeats 4000000 in
theorem caps_walk (all n percent : Int) (w : World) (h1 : I64 all) (h2 : I64 n) (h3 : I64 percent) :
    Calls Try.prog 7 #[.int .i64 all, .int .i64 n, .int .i64 percent] w fun e w' => e = .returned (.bool true) ∧ Ext w w' := by
  have b1 := around_bd all 2147483648 (by omega)
  have b2 := around_bd n 1000 (by omega)
  have b3 := around_bd percent 901 (by omega)
  have a1 : ∀ u : World, Calls Try.prog 14 #[.int .i64 all, .int .i64 2147483648] u fun e w' => e = .returned (.int .i64 (around all 2147483648)) ∧ u = w' := fun u => around_any all _ u h1 (by omega)
  have a2 : ∀ u : World, Calls Try.prog 14 #[.int .i64 n, .int .i64 1000] u fun e w' => e = .returned (.int .i64 (around n 1000)) ∧ u = w' := fun u => around_any n _ u h2 (by omega)
  have a3 : ∀ u : World, Calls Try.prog 14 #[.int .i64 percent, .int .i64 901] u fun e w' => e = .returned (.int .i64 (around percent 901)) ∧ u = w' := fun u => around_any percent _ u h3 (by omega)
  obtain ⟨a, ha⟩ : ∃ a, around all 2147483648 = a := ⟨_, rfl⟩
  obtain ⟨k, hk⟩ : ∃ k, around n 1000 = k := ⟨_, rfl⟩
  obtain ⟨p, hp⟩ : ∃ p, around percent 901 = p := ⟨_, rfl⟩
  rw [ha] at b1 a1
  rw [hk] at b2 a2
  rw [hp] at b3 a3
  have HA1 := hide a1
  have HA2 := hide a2
  have HA3 := hide a3
  clear a1 a2 a3 ha hk hp
  have hcb := cap_bd a (1 + k) (100 + p) b1 (by omega) (by omega)
  have hcp := cap_prev a (1 + k) (100 + p) (by omega) (by omega)
  have hcm := cap_more a (1 + k) (100 + p) (by omega) (by omega) (by omega)
  have hcq := cap_percent a (1 + k) (100 + p) (by omega) (by omega)
  have hc0 : ∀ u : World, Calls Try.prog 24 #[.int .i64 a, .int .i64 (1 + k), .int .i64 (100 + p)] u fun e w' => e = .returned (.int .i64 (capI a (1 + k) (100 + p))) ∧ u = w' := fun u => cap_any _ _ _ u (by omega) (by omega) (by omega)
  have hr0 : ∀ u : World, Calls Try.prog 25 #[.int .i64 a, .int .i64 (1 + k), .int .i64 (100 + p)] u fun e w' => e = .returned (.int .i64 (capI a (1 + k) (100 + p))) ∧ u = w' := fun u => rcap_any _ _ _ u (by omega) (by omega) (by omega)
  have hc1 : ∀ u : World, 0 < a → Calls Try.prog 24 #[.int .i64 (a - 1), .int .i64 (1 + k), .int .i64 (100 + p)] u fun e w' => e = .returned (.int .i64 (capI (a - 1) (1 + k) (100 + p))) ∧ u = w' := fun u h => cap_any _ _ _ u (by omega) (by omega) (by omega)
  have hc2 : ∀ u : World, Calls Try.prog 24 #[.int .i64 a, .int .i64 (1 + k + 1), .int .i64 (100 + p)] u fun e w' => e = .returned (.int .i64 (capI a (1 + k + 1) (100 + p))) ∧ u = w' := fun u => cap_any _ _ _ u (by omega) (by omega) (by omega)
  have hc3 : ∀ u : World, Calls Try.prog 24 #[.int .i64 a, .int .i64 (1 + k), .int .i64 (100 + p + 1)] u fun e w' => e = .returned (.int .i64 (capI a (1 + k) (100 + p + 1))) ∧ u = w' := fun u => cap_any _ _ _ u (by omega) (by omega) (by omega)
  obtain ⟨c, hc⟩ : ∃ c, capI a (1 + k) (100 + p) = c := ⟨_, rfl⟩
  obtain ⟨d1, hd1⟩ : ∃ c, capI (a - 1) (1 + k) (100 + p) = c := ⟨_, rfl⟩
  obtain ⟨d2, hd2⟩ : ∃ c, capI a (1 + k + 1) (100 + p) = c := ⟨_, rfl⟩
  obtain ⟨d3, hd3⟩ : ∃ c, capI a (1 + k) (100 + p + 1) = c := ⟨_, rfl⟩
  rw [hc] at hcb hcp hcm hcq hc0 hr0
  rw [hd1] at hcp hc1
  rw [hd2] at hcm hc2
  rw [hd3] at hcq hc3
  obtain ⟨hcb1, hcb2, hcb3, hcb4⟩ := hcb
  obtain ⟨m, hm⟩ : ∃ m, c * (1 + k) = m := ⟨_, rfl⟩
  have hm0 : 0 ≤ m := by omega
  have HC0 := hide hc0
  have HR0 := hide hr0
  have HC1 := hide hc1
  have HC2 := hide hc2
  have HC3 := hide hc3
  clear hc hd1 hd2 hd3 hc0 hr0 hc1 hc2 hc3
  go_enter Try.func7, Try.ntmps7
  go_wp2_with fail
  refine (HA1.out _).mono ?_
  rintro e w1 ⟨rfl, rfl⟩
  go_wp2_with fail
  refine (HA2.out _).mono ?_
  rintro e w1 ⟨rfl, rfl⟩
  go_wp2_with fail
  refine (HA3.out _).mono ?_
  rintro e w1 ⟨rfl, rfl⟩
  go_wp2_with fail
  refine (HC0.out _).mono ?_
  rintro e w1 ⟨rfl, rfl⟩
  go_wp2_with fail
  refine (HR0.out _).mono ?_
  rintro e w1 ⟨rfl, rfl⟩
  by_cases ha0 : 0 < a
  · go_wp2_with fail
    refine (HC1.out _ ha0).mono ?_
    rintro e w1 ⟨rfl, rfl⟩
    by_cases hk1 : 1 + k = 1000
    · obtain rfl : k = 999 := by omega
      have hc3 := HC3.out
      rw [show (1 + 999 : Int) = 1000 from rfl] at hc3
      have HC4 := hide hc3
      clear hc3
      by_cases hp1 : 100 + p = 1000
      · have hpb : ((100 + p : Int) == 1000) = true := by simp; omega
        go_wp2_with fail
        refine (lives10_any _).mono ?_
        rintro e w2 ⟨rfl, E2⟩
        go_wp2_with fail
        go_ret
        exact ⟨rfl, E2⟩
      · have hpb : ((100 + p : Int) == 1000) = false := by simp; omega
        go_wp2_with fail
        refine (HC4.out _).mono ?_
        rintro e w1 ⟨rfl, rfl⟩
        go_wp2_with fail
        refine (lives10_any _).mono ?_
        rintro e w2 ⟨rfl, E2⟩
        go_wp2_with fail
        go_ret
        exact ⟨rfl, E2⟩
    · have hkb : ((1 + k : Int) == 1000) = false := by simp; omega
      go_wp2_with fail
      refine (HC2.out _).mono ?_
      rintro e w1 ⟨rfl, rfl⟩
      by_cases hp1 : 100 + p = 1000
      · have hpb : ((100 + p : Int) == 1000) = true := by simp; omega
        go_wp2_with fail
        refine (lives10_any _).mono ?_
        rintro e w2 ⟨rfl, E2⟩
        go_wp2_with fail
        go_ret
        exact ⟨rfl, E2⟩
      · have hpb : ((100 + p : Int) == 1000) = false := by simp; omega
        go_wp2_with fail
        refine (HC3.out _).mono ?_
        rintro e w1 ⟨rfl, rfl⟩
        go_wp2_with fail
        refine (lives10_any _).mono ?_
        rintro e w2 ⟨rfl, E2⟩
        go_wp2_with fail
        go_ret
        exact ⟨rfl, E2⟩
  · by_cases hk1 : 1 + k = 1000
    · obtain rfl : k = 999 := by omega
      have hc3 := HC3.out
      rw [show (1 + 999 : Int) = 1000 from rfl] at hc3
      have HC4 := hide hc3
      clear hc3
      by_cases hp1 : 100 + p = 1000
      · have hpb : ((100 + p : Int) == 1000) = true := by simp; omega
        go_wp2_with fail
        refine (lives10_any _).mono ?_
        rintro e w2 ⟨rfl, E2⟩
        go_wp2_with fail
        go_ret
        exact ⟨rfl, E2⟩
      · have hpb : ((100 + p : Int) == 1000) = false := by simp; omega
        go_wp2_with fail
        refine (HC4.out _).mono ?_
        rintro e w1 ⟨rfl, rfl⟩
        go_wp2_with fail
        refine (lives10_any _).mono ?_
        rintro e w2 ⟨rfl, E2⟩
        go_wp2_with fail
        go_ret
        exact ⟨rfl, E2⟩
    · have hkb : ((1 + k : Int) == 1000) = false := by simp; omega
      go_wp2_with fail
      refine (HC2.out _).mono ?_
      rintro e w1 ⟨rfl, rfl⟩
      by_cases hp1 : 100 + p = 1000
      · have hpb : ((100 + p : Int) == 1000) = true := by simp; omega
        go_wp2_with fail
        refine (lives10_any _).mono ?_
        rintro e w2 ⟨rfl, E2⟩
        go_wp2_with fail
        go_ret
        exact ⟨rfl, E2⟩
      · have hpb : ((100 + p : Int) == 1000) = false := by simp; omega
        go_wp2_with fail
        refine (HC3.out _).mono ?_
        rintro e w1 ⟨rfl, rfl⟩
        go_wp2_with fail
        refine (lives10_any _).mono ?_
        rintro e w2 ⟨rfl, E2⟩
        go_wp2_with fail
        go_ret
        exact ⟨rfl, E2⟩
end Go.Proofs.Ytfmoiepjbkhjfaa
