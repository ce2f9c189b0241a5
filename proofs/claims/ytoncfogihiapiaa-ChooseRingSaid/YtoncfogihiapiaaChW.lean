/- The reference's Point, Far and Row of a ring. -/
import Derived.Test.YtoncfogihiapiaaChV
import Derived.Test.YtoncfogihiapiaaApp
namespace Go.Proofs.Ytoncfogihiapiaa
open Go.ChangeShapes Go.WideShapes Go.ChangeAt Go.RowKit Go.Maps Go.Shelf
theorem Try.infoO : (Try.prog.info? 95).map (fun i => (i.zero, i.size, i.bytes)) = some (some (.agg #[.int .i64 0, .int .u64 0]), 2, 16) := by kernel_rfl
theorem wrap_u64_small (k : Nat) (h : k ≤ 1000) : IntKind.u64.wrap (k : Int) = (k : Int) := by
  have e : IntKind.u64.wrap (k : Int) = (k : Int) % 18446744073709551616 := by simp [IntKind.wrap, IntKind.signed, IntKind.bits]
  rw [e]; omega
theorem wrap_dK (key z : Int) : IntKind.u64.wrap (z - key) = dK key z := by
  unfold dK; simp [IntKind.wrap, IntKind.signed, IntKind.bits]
theorem dK_bd (key z : Int) : 0 ≤ dK key z ∧ dK key z ≤ 18446744073709551615 := by unfold dK; omega
theorem pointZ_any (id k : Int) (w : World) : Calls Try.prog 83 #[.int .i64 id, .int .i64 k] w fun e w' => e = .returned (.int .u64 (mix (mix 0 (IntKind.u64.wrap id)) (IntKind.u64.wrap k))) ∧ w = w' := by
  have h1 : ∀ u : World, Calls Try.prog 93 #[.int .u64 0, .int .u64 (IntKind.u64.wrap id)] u fun e w' => e = .returned (.int .u64 (mix 0 (IntKind.u64.wrap id))) ∧ u = w' := fun u => rmix_any 0 _ u (by unfold U64; omega) (wrap_u64_bd _)
  have h2 : ∀ u : World, Calls Try.prog 93 #[.int .u64 (mix 0 (IntKind.u64.wrap id)), .int .u64 (IntKind.u64.wrap k)] u fun e w' => e = .returned (.int .u64 (mix (mix 0 (IntKind.u64.wrap id)) (IntKind.u64.wrap k))) ∧ u = w' := fun u => rmix_any _ _ u (mix_bd _ _) (wrap_u64_bd _)
  have H1 := hide h1
  have H2 := hide h2
  clear h1 h2
  go_enter Try.func83, Try.ntmps83
  go_wp2_with fail
  refine (H1.out _).mono ?_
  rintro e w' ⟨rfl, rfl⟩
  go_wp2_with fail
  refine (H2.out _).mono ?_
  rintro e w' ⟨rfl, rfl⟩
  go_wp2_with fail
  go_ret
  exact ⟨rfl, rfl⟩
theorem pointK_any (id : Int) (k : Nat) (w : World) (hk : k ≤ 1000) : Calls Try.prog 83 #[.int .i64 id, .int .i64 k] w fun e w' => e = .returned (.int .u64 (ptK id k)) ∧ w = w' := by
  have h3 : mix (mix 0 (IntKind.u64.wrap id)) (IntKind.u64.wrap (k : Int)) = ptK id k := by rw [wrap_u64_small k hk]; rfl
  rw [← h3]
  exact pointZ_any id k w
set_option maxRecDepth 100000 in
set_option maxHeartbeats 1000000 in
theorem far_any (id key : Int) (p : Nat) (w : World) (hp : 1 ≤ p ∧ p ≤ 1000) : Calls Try.prog 57 #[.int .i64 id, .int .i64 p, .int .u64 key] w fun e w' => e = .returned (.int .u64 (farI key p id)) ∧ w = w' := by
  have hpt : ∀ (k : Nat) (u : World), k ≤ 1000 → Calls Try.prog 83 #[.int .i64 id, .int .i64 k] u fun e w' => e = .returned (.int .u64 (ptK id k)) ∧ u = w' := fun k u hk => pointK_any id k u hk
  have HPT := hide hpt
  have hp2 : (p : Int) ≤ 1000 := by omega
  have hd0 := wrap_dK key (ptK id 0)
  obtain ⟨z0, hz0⟩ : ∃ z, ptK id 0 = z := ⟨_, rfl⟩
  obtain ⟨d0, he0⟩ : ∃ d, dK key z0 = d := ⟨_, rfl⟩
  rw [hz0, he0] at hd0
  have hb0 := dK_bd key z0
  rw [he0] at hb0
  have hf1 : farUp key id 1 = d0 := by rw [← he0, ← hz0]; rfl
  have HF1 := hide hf1
  have HZ0 := hide hz0
  have HD0 := hide hd0
  clear hpt hz0 he0 hf1 hd0
  go_enter Try.func57, Try.ntmps57
  go_wp2_with fail
  refine (HPT.out 0 _ (by omega)).mono ?_
  rintro e w' ⟨rfl, rfl⟩
  rw [HZ0.out]
  have hd0 := HD0.out
  go_wp2_with fail
  clear hd0
  go_loop [7, 8] (fun b i => ∃ k : Nat, 1 ≤ k ∧ k ≤ p ∧ i = .int .i64 k ∧ b = .int .u64 (farUp key id k)) (fun _ i => p - (intOf i).toNat)
  case atStart => exact ⟨1, by omega, by omega, rfl, by rw [HF1.out]⟩
  case round =>
    obtain ⟨k, hk1, hk, rfl, rfl⟩ := hrel
    by_cases hlt : k < p
    · have hd := wrap_dK key (ptK id k)
      have hb := dK_bd key (ptK id k)
      have hsn : farUp key id (k+1) = if dK key (ptK id k) < farUp key id k then dK key (ptK id k) else farUp key id k := by
        obtain ⟨j, rfl⟩ : ∃ j, k = j + 1 := ⟨k - 1, by omega⟩
        rfl
      obtain ⟨z, hz⟩ : ∃ z, ptK id k = z := ⟨_, rfl⟩
      rw [hz] at hd hb hsn
      obtain ⟨d, he⟩ : ∃ d, dK key z = d := ⟨_, rfl⟩
      rw [he] at hd hb hsn
      obtain ⟨F, hF⟩ : ∃ F, farUp key id k = F := ⟨_, rfl⟩
      rw [hF] at hsn ⊢
      have HZ := hide hz
      have HD := hide hd
      have HSN := hide hsn
      clear hz hd he hsn hF
      go_wp2_with fail
      refine (HPT.out k _ (by omega)).mono ?_
      rintro e w' ⟨rfl, rfl⟩
      rw [HZ.out]
      by_cases hdf : d < F
      · have hs := HSN.out
        rw [if_pos hdf] at hs
        have HS := hide hs
        have hd := HD.out
        clear hs
        go_wp2
        go_round
        case rel => exact ⟨k + 1, by omega, hlt, by go_num, by rw [HS.out]⟩
        case measure => simp [intOf]; omega
      · have hs := HSN.out
        rw [if_neg hdf] at hs
        have HS := hide hs
        have hd := HD.out
        clear hs
        go_wp2
        go_round
        case rel => exact ⟨k + 1, by omega, hlt, by go_num, by rw [HS.out]⟩
        case measure => simp [intOf]; omega
    · obtain rfl : k = p := by omega
      go_wp2
      go_ret
      exact ⟨rfl, rfl⟩
end Go.Proofs.Ytoncfogihiapiaa
