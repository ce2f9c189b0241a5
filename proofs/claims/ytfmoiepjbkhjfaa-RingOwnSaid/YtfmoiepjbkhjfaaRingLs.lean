/- RingLess: the walk. -/
import Derived.Test.YtfmoiepjbkhjfaaRingK
namespace Go.Proofs.Ytfmoiepjbkhjfaa
open Go.ChangeShapes Go.WideShapes Go.ChangeAt Go.RowKit Go.Sort Go.Shelf
theorem madeP_nat (l : List Int) : ∃ p : Nat, madeP l = (p : Int) ∧ 1 ≤ p ∧ p ≤ 6 := by
  have := madeP_bd l
  exact ⟨(madeP l).toNat, by omega, by omega, by omega⟩
theorem sameInts_self (l : List Int) : sameInts l l = true := by simp [sameInts]
theorem row_wo (key : Int) (p : Nat) (ids : List Int) (n : Int) : rowOf key (pointsOf p (wo ids n)) = wo (rowOf key (pointsOf p ids)) n := rowOf_filter key p _ ids
theorem wo_len (l : List Int) (n : Int) : (wo l n).length ≤ l.length := List.length_filter_le _ _
set_option maxRecDepth 100000 in
set_option maxHeartbeats 2000000 in
theorem less_walk (m : List Int) (v : Value) (away key k how : Int) (w : World) (hs : Ints w v m) (hm : ∀ x ∈ m, I64 x) (ha : I64 away) (hk : I64 k) (hh : I64 how) :
    Calls Try.prog 3 #[v, .int .i64 away, .int .u64 key, .int .i64 k, .int .i64 how] w fun e w' => e = .returned (.bool true) ∧ Ext w w' := by
  have HS := hide hs
  have HM := hide hm; clear hm
  obtain ⟨_, a, cap, rfl⟩ := hs.shape
  clear hs
  obtain ⟨p, hp, hp1, hp6⟩ := madeP_nat m
  have hlen := madeI_len m
  have hmade : ∀ u, Ints u (.slice a m.length cap) m → Calls Try.prog 13 #[.slice a m.length cap] u fun e w' => ∃ v', e = .returned (.tuple #[v', .int .i64 p]) ∧ Ints w' v' (madeI m) ∧ Ext u w' := fun u hu =>
    (made_any m _ u hu HM.out).mono (by rintro e w' ⟨v', rfl, ho, he⟩; exact ⟨v', by rw [hp], own_ints ho (by omega), he⟩)
  have HMD := hide hmade
  have b1 := around_bd away 9 (by omega)
  have har : ∀ u : World, Calls Try.prog 14 #[.int .i64 away, .int .i64 9] u fun e w' => e = .returned (.int .i64 (around away 9)) ∧ u = w' := fun u => around_any away 9 u ha (by omega)
  obtain ⟨a1, e1⟩ : ∃ a, around away 9 = a := ⟨_, rfl⟩
  rw [e1] at har b1
  have HAR := hide har
  obtain ⟨I, hI⟩ : ∃ I, madeI m = I := ⟨_, rfl⟩
  have hlen2 : I.length ≤ 8 := by rw [← hI]; exact hlen
  have HI := hide hI
  clear hmade har e1 hp hI hlen
  go_enter Try.func3, Try.ntmps3
  go_wp2_with fail
  refine (HMD.out _ HS.out).mono ?_
  rintro e w1 ⟨v1, rfl, h1, E1⟩
  rw [HI.out] at h1
  obtain ⟨_, x1, c1, rfl⟩ := h1.shape
  have H1 := hide h1
  clear h1
  go_wp2_with fail
  refine (HAR.out _).mono ?_
  rintro e w1' ⟨rfl, rfl⟩
  go_wp2_with fail
  refine (new_any I _ p _ H1.out (by omega) (by omega)).mono ?_
  rintro e w2 ⟨r2, rfl, hr2, E2⟩
  have H2 := hide (H1.out.ext E2)
  go_wp2_with fail
  refine (without_any I (1 + a1) _ _ H2.out (by omega)).mono ?_
  rintro e w3 ⟨v3, rfl, ho3, E3⟩
  have hwl := wo_len I (1 + a1)
  have h3 := own_ints ho3 (by omega)
  clear ho3
  go_wp2_with fail
  refine (new_any (wo I (1 + a1)) _ p _ h3 (by omega) (by omega)).mono ?_
  rintro e w4 ⟨r4, rfl, hr4, E4⟩
  go_wp2_with fail
  refine (key_any key away k how _ ha hk hh).mono ?_
  rintro e w4' ⟨z, rfl, rfl⟩
  go_wp2_with fail
  refine (row_ints z (by omega) ((hr2.ext E3).ext E4)).mono ?_
  rintro e w5 ⟨v5, rfl, h5, E5⟩
  have hrl := rowOf_le z p (by omega) I
  go_wp2_with fail
  refine (without_any _ (1 + a1) _ _ h5 (by omega)).mono ?_
  rintro e w6 ⟨v6, rfl, ho6, E6⟩
  have hwl2 := wo_len (rowOf z (pointsOf p I)) (1 + a1)
  have h6 := own_ints ho6 (by omega)
  clear ho6
  go_wp2_with fail
  refine (row_ints z (by omega) ((hr4.ext E5).ext E6)).mono ?_
  rintro e w7 ⟨v7, rfl, h7, E7⟩
  rw [row_wo] at h7
  go_wp2_with fail
  refine (sameInts_any _ _ _ _ _ (h6.ext E7) h7).mono ?_
  rintro e w8 ⟨rfl, E8⟩
  rw [sameInts_self]
  go_wp2_with fail
  refine (lives_any _).mono ?_
  rintro e w9 ⟨rfl, E9⟩
  go_wp2_with fail
  go_ret
  exact ⟨rfl, E1.trans (E2.trans (E3.trans (E4.trans (E5.trans (E6.trans (E7.trans (E8.trans E9)))))))⟩
end Go.Proofs.Ytfmoiepjbkhjfaa
