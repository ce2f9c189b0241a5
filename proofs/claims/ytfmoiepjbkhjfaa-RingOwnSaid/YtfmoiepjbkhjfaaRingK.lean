/- Point, Key: some key. -/
import Derived.Test.YtfmoiepjbkhjfaaRingV
namespace Go.Proofs.Ytfmoiepjbkhjfaa
open Go.ChangeShapes Go.WideShapes Go.ChangeAt Go.RowKit Go.Sort Go.Shelf
theorem point_any (id k : Int) (w : World) : Calls Try.prog 21 #[.int .i64 id, .int .i64 k] w fun e w' => ∃ z, e = .returned (.int .u64 z) ∧ w = w' := by
  have h1 : ∀ u : World, Calls Try.prog 45 #[.int .u64 0, .int .u64 (IntKind.u64.wrap id)] u fun e w' => e = .returned (.int .u64 (mix 0 (IntKind.u64.wrap id))) ∧ u = w' := fun u => rmix_any 0 _ u (by unfold U64; omega) (wrap_u64_bd _)
  have h2 : ∀ u : World, Calls Try.prog 45 #[.int .u64 (mix 0 (IntKind.u64.wrap id)), .int .u64 (IntKind.u64.wrap k)] u fun e w' => e = .returned (.int .u64 (mix (mix 0 (IntKind.u64.wrap id)) (IntKind.u64.wrap k))) ∧ u = w' := fun u => rmix_any _ _ u (mix_bd _ _) (wrap_u64_bd _)
  have H1 := hide h1
  have H2 := hide h2
  clear h1 h2
  go_enter Try.func21, Try.ntmps21
  go_wp2_with fail
  refine (H1.out _).mono ?_
  rintro e w' ⟨rfl, rfl⟩
  go_wp2_with fail
  refine (H2.out _).mono ?_
  rintro e w' ⟨rfl, rfl⟩
  go_wp2_with fail
  go_ret
  exact ⟨_, rfl, rfl⟩
set_option maxHeartbeats 1000000 in
theorem key_any (key id k how : Int) (w : World) (hi : I64 id) (hk : I64 k) (hh : I64 how) : Calls Try.prog 17 #[.int .u64 key, .int .i64 id, .int .i64 k, .int .i64 how] w fun e w' => ∃ z, e = .returned (.int .u64 z) ∧ w = w' := by
  have b1 := around_bd id 9 (by omega)
  have b2 := around_bd k 6 (by omega)
  have b3 := around_bd how 4 (by omega)
  have h1 : ∀ u : World, Calls Try.prog 14 #[.int .i64 id, .int .i64 9] u fun e w' => e = .returned (.int .i64 (around id 9)) ∧ u = w' := fun u => around_any id 9 u hi (by omega)
  have h2 : ∀ u : World, Calls Try.prog 14 #[.int .i64 k, .int .i64 6] u fun e w' => e = .returned (.int .i64 (around k 6)) ∧ u = w' := fun u => around_any k 6 u hk (by omega)
  have h3 : ∀ u : World, Calls Try.prog 14 #[.int .i64 how, .int .i64 4] u fun e w' => e = .returned (.int .i64 (around how 4)) ∧ u = w' := fun u => around_any how 4 u hh (by omega)
  obtain ⟨a1, e1⟩ : ∃ a, around id 9 = a := ⟨_, rfl⟩
  obtain ⟨a2, e2⟩ : ∃ a, around k 6 = a := ⟨_, rfl⟩
  obtain ⟨a3, e3⟩ : ∃ a, around how 4 = a := ⟨_, rfl⟩
  rw [e1] at h1 b1; rw [e2] at h2 b2; rw [e3] at h3 b3
  have H1 := hide h1
  have H2 := hide h2
  have H3 := hide h3
  clear h1 h2 h3 e1 e2 e3 hi hk hh
  go_enter Try.func17, Try.ntmps17
  go_wp2_with fail
  refine (H1.out _).mono ?_
  rintro e w' ⟨rfl, rfl⟩
  go_wp2_with fail
  refine (H2.out _).mono ?_
  rintro e w' ⟨rfl, rfl⟩
  go_wp2_with fail
  refine (point_any _ _ _).mono ?_
  rintro e w' ⟨z, rfl, rfl⟩
  go_wp2_with fail
  refine (H3.out _).mono ?_
  rintro e w' ⟨rfl, rfl⟩
  by_cases c0 : a3 = 0
  · subst c0
    go_wp2_with fail
    go_ret
    exact ⟨_, rfl, rfl⟩
  · by_cases c1 : a3 = 1
    · subst c1
      go_wp2_with fail
      go_ret
      exact ⟨_, rfl, rfl⟩
    · by_cases c2 : a3 = 2
      · subst c2
        go_wp2_with fail
        go_ret
        exact ⟨_, rfl, rfl⟩
      · obtain rfl : a3 = 3 := by omega
        go_wp2_with fail
        go_ret
        exact ⟨_, rfl, rfl⟩
end Go.Proofs.Ytfmoiepjbkhjfaa
