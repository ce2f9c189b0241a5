/- BoundPigeon: the walk. -/
import Derived.Test.YtfmoiepjbkhjfaaBndH
namespace Go.Proofs.Ytfmoiepjbkhjfaa
open Go.ChangeShapes Go.WideShapes Go.ChangeAt Go.RowKit Go.Maps Go.Shelf
set_option maxRecDepth 100000 in
set_option maxHeartbeats 4000000 in
theorem pigeon_walk (l some loads : List Int) (v u t : Value) (key percent : Int) (w : World) (h1 : Ints w v l) (h1i : ∀ x ∈ l, I64 x) (h3 : Ints w u some) (h3i : ∀ x ∈ some, I64 x) (h4 : Ints w t loads) (h4i : ∀ x ∈ loads, I64 x) (h5 : I64 percent) :
    Calls Try.prog 9 #[v, .int .u64 key, u, t, .int .i64 percent] w fun e w' => e = .returned (.bool true) ∧ Ext w w' := by
  obtain ⟨p0, hp0, hof⟩ := of10r_any l 4 key v w h1 h1i (by unfold I64; omega)
  obtain ⟨_, ax, cx, rfl⟩ := h1.shape
  obtain ⟨_, ay, cy, rfl⟩ := h3.shape
  obtain ⟨_, az, cz, rfl⟩ := h4.shape
  have H3 := hide h3
  have H4 := hide h4
  have H3I := hide h3i
  have H4I := hide h4i
  have HOF := hide hof
  have b1 := around_bd percent 901 (by omega)
  have har : ∀ u : World, Calls Try.prog 14 #[.int .i64 percent, .int .i64 901] u fun e w' => e = .returned (.int .i64 (around percent 901)) ∧ u = w' := fun u => around_any percent _ u h5 (by omega)
  obtain ⟨q, hq⟩ : ∃ q, around percent 901 = q := ⟨_, rfl⟩
  rw [hq] at b1 har
  have HAR := hide har
  have hil := idsI_len some
  have hll := loadsI_len loads
  clear h1 h3 h4 h1i h3i h4i hof hq har
  go_enter Try.func9, Try.ntmps9
  go_wp2_with fail
  refine HOF.out.mono ?_
  rintro e w1 ⟨B, v1, rfl, hr1, hrow1, E1⟩
  have hrb := row_bd key p0 (by omega) l
  have hpick : ∀ (u : World) (x y : Value), RingAt u (.pointer (Option.some ⟨B, 0, none⟩)) (ends (idsI l)).length (pointsOf p0 (idsI l)) → Ints u x (idsI some) → Parts u y (loadsI loads) → Calls Try.prog 30 #[.pointer (Option.some ⟨B, 0, none⟩), .int .u64 key, x, y, .int .i64 (100 + q)] u fun e w' => e = .returned (.tuple #[.int .i64 ((pickOf (cnt (rowOf key (pointsOf p0 (idsI l))) (idsI some)) (loadsI loads) (100 + q)).getD 0), .bool (pickOf (cnt (rowOf key (pointsOf p0 (idsI l))) (idsI some)) (loadsI loads) (100 + q)).isSome]) ∧ Ext u w' := fun u x y hr hs ht =>
    pickI_any l (idsI some) (loadsI loads) p0 key (100 + q) _ _ _ u hr hs ht (by omega) (by omega) (idsI_64 some) (by omega) (loadsI_64 loads) (loadsI_02 loads) (by omega)
  obtain ⟨row, hrw⟩ : ∃ row, rowOf key (pointsOf p0 (idsI l)) = row := ⟨_, rfl⟩
  rw [hrw] at hrow1 hrb hpick
  obtain ⟨hrb1, hrb2⟩ := hrb
  obtain ⟨_, ar, cr, rfl⟩ := hrow1.shape
  have HP := hide hpick
  have HR1 := hide hr1
  have HW1 := hide hrow1
  have HRB := hide hrb2
  have hrl : (row.length : Int) ≤ 12 := by omega
  clear hr1 hrow1 hpick hrw hrb2
  go_wp2_with fail
  refine (ids_any some _ _ (H3.out.ext E1) H3I.out).mono ?_
  rintro e w2 ⟨v2, rfl, ho2, E2⟩
  have HS := hide (own_ints_b ho2 (by omega))
  clear ho2
  go_wp2_with fail
  refine (loads_any loads _ _ ((H4.out.ext E1).ext E2) H4I.out).mono ?_
  rintro e w3 ⟨v3, rfl, ho3, E3⟩
  have HL := hide (own_parts ho3 (by omega))
  clear ho3
  have HS3 := hide (HS.out.ext E3)
  have HW3 := hide ((HW1.out.ext E2).ext E3)
  have HR3 := hide ((HR1.out.ext E2).ext E3)
  have HL2 := hide (loadsI_02 loads)
  obtain ⟨S, hS⟩ : ∃ S, idsI some = S := ⟨_, rfl⟩
  obtain ⟨L, hL⟩ : ∃ L, loadsI loads = L := ⟨_, rfl⟩
  rw [hS] at HS3 HP
  rw [hL] at HL HP HL2
  clear hS hL HS HW1 HR1 hil hll
  go_wp2_with fail
  refine (HAR.out _).mono ?_
  rintro e w3' ⟨rfl, rfl⟩
  go_wp2
  go_loopw [16, 17, 18] (fun n s i wr => ∃ k : Nat, k ≤ row.length ∧ i = .int .i64 k ∧ n = .int .i64 (cnt (row.take k) S).length ∧ s = .int .i64 (sumL (cnt (row.take k) S) L) ∧ wr = w3)
    (fun _ _ i _ => row.length - (intOf i).toNat)
  case atStart => exact ⟨0, Nat.zero_le _, rfl, rfl, rfl, rfl⟩
  case round =>
    obtain ⟨k, hk, rfl, rfl, rfl, rfl⟩ := hrel
    by_cases hlt : k < row.length
    · obtain ⟨b, off, rfl, hbb, hc⟩ := ints_at HW3.out k hlt
      have hcs := cnt_succ row S k hlt
      have hcl : (cnt (row.take k) S).length ≤ 12 := Nat.le_trans (List.length_filter_le _ _) (by rw [List.length_take]; omega)
      have hsb := sumL_bd (cnt (row.take k) S) L 2000000 (by omega) HL2.out
      obtain ⟨x, hxx⟩ : ∃ x, row[k] = x := ⟨_, rfl⟩
      rw [hxx] at hc hcs
      obtain ⟨F, hF⟩ : ∃ F, cnt (row.take k) S = F := ⟨_, rfl⟩
      rw [hF] at hcs hcl hsb ⊢
      have hlb := loadI_bd L 2000000 (by omega) HL2.out x
      obtain ⟨s, hs⟩ : ∃ s, sumL F L = s := ⟨_, rfl⟩
      have hsn := sumL_snoc F L x
      rw [hs] at hsb hsn ⊢
      obtain ⟨m, hm⟩ : ∃ m, loadI L x = m := ⟨_, rfl⟩
      rw [hm] at hlb hsn
      have HM := hide hm
      have HSN := hide hsn
      have HS' := hide hs
      clear hxx hF hm hs hsn
      by_cases hin : S.contains x = true
      · rw [if_pos hin] at hcs
        have HCS := hide hcs; clear hcs
        go_wp2_with fail
        refine (has_any S x _ _ HS3.out).mono ?_
        rintro e w' ⟨rfl, rfl⟩
        rw [hin]
        go_wp2_with fail
        refine (of10_any L x _ _ HL.out).mono ?_
        rintro e w' ⟨rfl, rfl⟩
        rw [HM.out]
        go_wp2
        go_roundw
        case rel => exact ⟨k + 1, hlt, by go_num, by rw [HCS.out, List.length_append]; go_num, by rw [HCS.out, HSN.out], trivial⟩
        case measure => simp [intOf]; omega
      · have hin' : S.contains x = false := by simpa using hin
        rw [if_neg hin] at hcs
        have HCS := hide hcs; clear hcs hin
        go_wp2_with fail
        refine (has_any S x _ _ HS3.out).mono ?_
        rintro e w' ⟨rfl, rfl⟩
        rw [hin']
        go_wp2
        go_roundw
        case rel => exact ⟨k + 1, hlt, by go_num, by rw [HCS.out], by rw [HCS.out, HS'.out], trivial⟩
        case measure => simp [intOf]; omega
    · obtain rfl : k = row.length := by omega
      rw [List.take_length]
      have hcl : (cnt row S).length ≤ row.length := cnt_le _ _
      have hpi := pick_iff (cnt row S) L (100 + q) (by omega) HL2.out (by omega)
      have hsb := sumL_bd (cnt row S) L 2000000 (by omega) HL2.out
      have hmem : ∀ x ∈ cnt row S, x ∈ row ∧ S.contains x = true := fun x hx => List.mem_filter.1 hx
      obtain ⟨R, hR⟩ : ∃ R, cnt row S = R := ⟨_, rfl⟩
      rw [hR] at HP hcl hpi hsb hmem ⊢
      have HMEM := hide hmem
      clear hR hmem
      rcases hpi with ⟨hR0, hpn⟩ | ⟨hR0, x, hpx, hxr, hxc⟩
      · subst hR0
        rw [hpn] at HP
        clear hpn hsb
        go_wp2_with fail
        refine (HP.out _ _ _ HR3.out HS3.out HL.out).mono ?_
        rintro e w5 ⟨rfl, E5⟩
        go_wp2_with fail
        refine (lives10_any _).mono ?_
        rintro e w7 ⟨rfl, E7⟩
        go_wp2_with fail
        go_ret
        exact ⟨rfl, E1.trans (E2.trans (E3.trans (E5.trans E7)))⟩
      · rw [hpx] at HP
        have hpos : 0 < (R.length : Int) := by have := List.length_pos_iff.2 hR0; omega
        have hposN : 0 < R.length := by omega
        have hdb : (!decide (0 < R.length)) = false := by simp [hposN]
        have hxm := HMEM.out x hxr
        have hin2 : row.contains x = true := by simpa using hxm.1
        have hin1 := hxm.2
        have hcap : ∀ u : World, Calls Try.prog 24 #[.int .i64 (sumL R L), .int .i64 R.length, .int .i64 (100 + q)] u fun e w' => e = .returned (.int .i64 (capI (sumL R L) R.length (100 + q))) ∧ u = w' := fun u => cap_any _ _ _ u (by omega) (by omega) (by omega)
        obtain ⟨s, hs⟩ : ∃ s, sumL R L = s := ⟨_, rfl⟩
        rw [hs] at hcap hsb hxc ⊢
        obtain ⟨C, hC⟩ : ∃ C, capI s R.length (100 + q) = C := ⟨_, rfl⟩
        rw [hC] at hcap hxc
        obtain ⟨m, hm⟩ : ∃ m, loadI L x = m := ⟨_, rfl⟩
        rw [hm] at hxc
        have HM := hide hm
        have HCAP := hide hcap
        have HI1 := hide hin1
        have HI2 := hide hin2
        clear hcap hm hC hs hpx hxm hin1 hin2 hxr hR0
        go_wp2_with fail
        refine (HP.out _ _ _ HR3.out HS3.out HL.out).mono ?_
        rintro e w5 ⟨rfl, E5⟩
        go_wp2_with fail
        refine (has_any S x _ _ (HS3.out.ext E5)).mono ?_
        rintro e w6 ⟨rfl, rfl⟩
        rw [HI1.out]
        go_wp2_with fail
        refine (has_any row x _ _ (HW3.out.ext E5)).mono ?_
        rintro e w6 ⟨rfl, rfl⟩
        rw [HI2.out]
        go_wp2_with fail
        refine (of10_any L x _ _ (HL.out.ext E5)).mono ?_
        rintro e w6 ⟨rfl, rfl⟩
        rw [HM.out]
        go_wp2_with fail
        refine (HCAP.out _).mono ?_
        rintro e w6 ⟨rfl, rfl⟩
        go_wp2_with fail
        refine (lives10_any _).mono ?_
        rintro e w7 ⟨rfl, E7⟩
        go_wp2_with fail
        go_ret
        exact ⟨rfl, E1.trans (E2.trans (E3.trans (E5.trans E7)))⟩
end Go.Proofs.Ytfmoiepjbkhjfaa
