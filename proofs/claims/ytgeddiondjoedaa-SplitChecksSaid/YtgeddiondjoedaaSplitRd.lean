/- SplitRound: the walk. -/
import Derived.Test.YtgeddiondjoedaaSplitH
namespace Go.Proofs.Ytgeddiondjoedaa
open Go.ChangeShapes Go.WideShapes Go.ChangeAt Go.RowKit
theorem sumW_take_le {ps : List (Int × Int)} {B : Int} (hB : ∀ p ∈ ps, p.2 ≤ B) : sumW ps ≤ B * ps.length := by
  induction ps with
  | nil => simp [sumW]
  | cons p l ih =>
    rw [sumW_cons]
    have h1 := hB p (by simp)
    have h2 := ih (fun q hq => hB q (by simp [hq]))
    simp only [List.length_cons]
    have : B * ((l.length + 1 : Nat) : Int) = B * l.length + B := by rw [Int.natCast_add, Int.mul_add]; simp
    omega
theorem made_last (m : List Int) : ∃ p ∈ made m, 1 ≤ p.2 := by
  have hn := madeN_bd m
  have hl := made_len m
  have hlt : (madeN m % 4).toNat < (made m).length := by omega
  refine ⟨(made m)[(madeN m % 4).toNat], List.getElem_mem _, ?_⟩
  rw [made_get]
  have hw : 0 ≤ (if (madeN m % 4).toNat + 1 < m.length then around (m.getD ((madeN m % 4).toNat+1) 0) 10 else 0) := by
    split
    · exact (around_bd _ 10 (by omega)).1
    · omega
  simp only [madeAt]
  rw [if_pos (by omega)]
  omega
theorem sumW_ge {ps : List (Int × Int)} (h : NonNeg ps) {p : Int × Int} (hp : p ∈ ps) : p.2 ≤ sumW ps := by
  induction ps with
  | nil => simp at hp
  | cons q l ih =>
    have hl : NonNeg l := fun r hr => h r (by simp [hr])
    have h0 := sumW_nonneg l hl
    have hq := h q (by simp)
    rw [sumW_cons]
    rcases List.mem_cons.1 hp with rfl | hp
    · omega
    · have := ih hl hp; omega
theorem made_nonneg (m : List Int) : NonNeg (made m) := fun p hp => (made_mem m p hp).2.1
theorem made_pos (m : List Int) : 1 ≤ sumW (made m) := by
  obtain ⟨p, hp, h⟩ := made_last m
  have := sumW_ge (made_nonneg m) hp
  omega
theorem made_le (m : List Int) : sumW (made m) ≤ 36 := by
  have := sumW_take_le (ps := made m) (B := 9) (fun p hp => (made_mem m p hp).2.2)
  have h := made_len4 m
  omega
theorem made_fine (m : List Int) : Fine (made m) := ⟨made_fits m, made_nonneg m, made_pos m, fun p hp => by have := (made_mem m p hp).1; omega⟩
theorem pick_round (ps : List (Int × Int)) (d k : Int) : pick ps (d + k * sumW ps) = pick ps d := by
  unfold pick
  rw [Int.add_mul_emod_self_right]

set_option maxHeartbeats 1000000 in
theorem round_walk (m : List Int) (v : Value) (d far : Int) (w : World) (hs : Ints w v m) (hm : ∀ x ∈ m, I64 x) (hd : U64 d) (hf : I64 far) :
    Calls Try.prog 6 #[v, .int .u64 d, .int .i64 far] w fun e w' => e = .returned (.bool true) ∧ Ext w w' := by
  have HS := hide hs
  have HM := hide hm; clear hm
  obtain ⟨_, a, cap, rfl⟩ := hs.shape
  clear hs
  have hp1 := made_pos m
  have hp2 := made_le m
  obtain ⟨S, hS⟩ : ∃ S, sumW (made m) = S := ⟨_, rfl⟩
  have HSS := hide hS
  rw [hS] at hp1 hp2
  clear hS
  have hd0 : 0 ≤ d := hd.1
  have hd1 : 0 ≤ d % 9223372036854775808 := by omega
  have hd2 : d % 9223372036854775808 ≤ 9223372036854775807 := by omega
  have hk := around_bd far 1000 (by omega)
  obtain ⟨k, hkk⟩ : ∃ k, around far 1000 = k := ⟨_, rfl⟩
  have HK := hide hkk
  rw [hkk] at hk
  clear hkk
  obtain ⟨D, hD⟩ : ∃ D, d % 9223372036854775808 = D := ⟨_, rfl⟩
  rw [hD] at hd1 hd2
  have hkS0 : 0 ≤ k * S := Int.mul_nonneg hk.1 (by omega)
  have hkS1 : k * S ≤ 999 * 36 := Int.mul_le_mul (by omega) hp2 (by omega) (by omega)
  have hkm : (k % 18446744073709551616) = k := by omega
  have hpk : pick (made m) (D + k * S) = pick (made m) D := by rw [← HSS.out]; exact pick_round _ _ _
  obtain ⟨p, hp, hpe⟩ := pick_mem (made m) (made_nonneg m) (made_pos m) D
  have hpp := (made_mem m p hp).1
  rw [← hpe] at hpp
  clear hpe hp p
  obtain ⟨x, hx⟩ : ∃ x, pick (made m) D = x := ⟨_, rfl⟩
  rw [hx] at hpp hpk
  have HX := hide hx; have HPK := hide hpk; have HD := hide hD
  clear hx hpk hD hkm
  go_enter Try.func6, Try.ntmps6
  go_wp2_with fail
  refine (made_any m _ _ HS.out HM.out).mono ?_
  rintro e w1 ⟨xv, rfl, hx, h1⟩
  have HXX := hide hx
  obtain ⟨_, ax, cx, rfl⟩ := hx.shape
  clear hx
  go_wp2_with fail
  rw [HD.out]
  refine (around_any far 1000 _ hf (by omega)).mono ?_
  rintro e w2 ⟨rfl, rfl⟩
  rw [HK.out]
  go_wp2_with fail
  refine (pick_any (made m) _ D _ HXX.out (made_fits m) ⟨by omega, by omega⟩).mono ?_
  rintro e w2 ⟨rfl, h2⟩
  rw [HX.out]
  go_wp2_with fail
  refine (sum_any (made m) _ _ (HXX.out.ext h2) (made_fits m)).mono ?_
  rintro e w3 ⟨rfl, h3⟩
  rw [HSS.out]
  go_wp2_with fail
  refine (pick_any (made m) _ (D + k * S) _ ((HXX.out.ext h2).ext h3) (made_fits m) ⟨by omega, by omega⟩).mono ?_
  rintro e w4 ⟨rfl, h4⟩
  rw [HPK.out]
  go_wp2_with fail
  refine (pick_any (made m) _ D _ (((HXX.out.ext h2).ext h3).ext h4) (made_fits m) ⟨by omega, by omega⟩).mono ?_
  rintro e w5 ⟨rfl, h5⟩
  rw [HX.out]
  go_wp2_with fail
  refine (lives_any _).mono ?_
  rintro e w6 ⟨rfl, h6⟩
  go_wp2_with fail
  go_ret
  exact ⟨rfl, (((h1.trans h2).trans h3).trans h4).trans h5 |>.trans h6⟩
end Go.Proofs.Ytgeddiondjoedaa
