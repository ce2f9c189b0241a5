/- BoundPicks: the walk. -/
import Derived.Test.YtfmoiepjbkhjfaaBndH
namespace Go.Proofs.Ytfmoiepjbkhjfaa
open Go.ChangeShapes Go.WideShapes Go.ChangeAt Go.RowKit Go.Maps Go.Shelf
set_option maxRecDepth 100000 in
set_option maxHeartbeats 4000000 in
theorem picks_walk (l some loads : List Int) (v u t : Value) (points key percent : Int) (w : World) (h1 : Ints w v l) (h1i : ∀ x ∈ l, I64 x) (h2 : I64 points) (h3 : Ints w u some) (h3i : ∀ x ∈ some, I64 x) (h4 : Ints w t loads) (h4i : ∀ x ∈ loads, I64 x) (h5 : I64 percent) :
    Calls Try.prog 8 #[v, .int .i64 points, .int .u64 key, u, t, .int .i64 percent] w fun e w' => e = .returned (.bool true) ∧ Ext w w' := by
  obtain ⟨p0, hp0, hof⟩ := of10r_any l points key v w h1 h1i h2
  obtain ⟨_, ax, cx, rfl⟩ := h1.shape
  obtain ⟨_, ay, cy, rfl⟩ := h3.shape
  obtain ⟨_, az, cz, rfl⟩ := h4.shape
  have H3 := hide h3
  have H4 := hide h4
  have H3I := hide h3i
  have H4I := hide h4i
  have HOF := hide hof
  have b1 := around_bd percent 901 (by omega)
  have har : ∀ u : World, Calls Try.prog 14 #[.int .i64 percent, .int .i64 901] u fun e w' => e = .returned (.int .i64 (around percent 901)) ∧ u = w' := fun u => around_any percent _ u h5 (by omega)
  obtain ⟨q, hq⟩ : ∃ q, around percent 901 = q := ⟨_, rfl⟩
  rw [hq] at b1 har
  have HAR := hide har
  have hil := idsI_len some
  have hll := loadsI_len loads
  clear h1 h3 h4 h1i h3i h4i hof hq har
  go_enter Try.func8, Try.ntmps8
  go_wp2_with fail
  refine HOF.out.mono ?_
  rintro e w1 ⟨B, v1, rfl, hr1, hrow1, E1⟩
  have hrb := row_bd key p0 (by omega) l
  have HR1 := hide hr1
  have HW1 := hide hrow1
  clear hr1 hrow1
  go_wp2_with fail
  refine (ids_any some _ _ (H3.out.ext E1) H3I.out).mono ?_
  rintro e w2 ⟨v2, rfl, ho2, E2⟩
  have HS := hide (own_ints_b ho2 (by omega))
  clear ho2
  go_wp2_with fail
  refine (loads_any loads _ _ ((H4.out.ext E1).ext E2) H4I.out).mono ?_
  rintro e w3 ⟨v3, rfl, ho3, E3⟩
  have HL := hide (own_parts ho3 (by omega))
  clear ho3
  go_wp2_with fail
  refine (HAR.out _).mono ?_
  rintro e w3' ⟨rfl, rfl⟩
  have e4 : Ext w3 (w3.alloc (.cells #[.int .i64 (100 + q), .int .i64 125] 3)) := (Below.refl _ w3).alloc (Nat.le_refl _) _
  have hb4 := heap_alloc_new w3 (.cells #[.int .i64 (100 + q), .int .i64 125] 3)
  have HB4 := hide hb4
  clear hb4
  go_wp2_with fail
  obtain ⟨w4, hw4⟩ : ∃ w4, w3.alloc (.cells #[.int .i64 (100 + q), .int .i64 125] 3) = w4 := ⟨_, rfl⟩
  rw [hw4] at HB4 e4 ⊢
  clear hw4
  have hs4 : w3.heap.size < w4.heap.size := (Array.getElem?_eq_some_iff.1 HB4.out).1
  go_loopw [18] (fun i wr => ∃ k : Nat, k ≤ 2 ∧ i = .int .i64 k ∧ Ext w4 wr) (fun i _ => 2 - (intOf i).toNat)
  case atStart => exact ⟨0, Nat.zero_le _, rfl, Below.refl _ _⟩
  case round =>
    obtain ⟨k, hk, rfl, hext⟩ := hrel
    by_cases hlt : k < 2
    · have hbk : wr.heap[w3.heap.size]? = Option.some (.cells #[.int .i64 (100 + q), .int .i64 125] 3 (0, 0)) := (hext.block _ hs4).trans HB4.out
      obtain ⟨P, hP, hc⟩ := two_cell hbk k hlt
      have hPb : 0 ≤ P ∧ P ≤ 1100 := by rcases hP with rfl | rfl <;> omega
      have hpk := pickI_any l (idsI some) (loadsI loads) p0 key P _ _ _ wr ((((HR1.out.ext E2).ext E3).ext e4).ext hext) (((HS.out.ext E3).ext e4).ext hext) ((HL.out.ext e4).ext hext) (by omega) (by omega) (idsI_64 some) (by omega) (loadsI_64 loads) (loadsI_02 loads) hPb
      have hrp : ∀ u : World, Ext wr u → Calls Try.prog 31 #[v1, v2, v3, .int .i64 P] u fun e w' => e = .returned (.tuple #[.int .i64 ((pickOf (cnt (rowOf key (pointsOf p0 (idsI l))) (idsI some)) (loadsI loads) P).getD 0), .bool (pickOf (cnt (rowOf key (pointsOf p0 (idsI l))) (idsI some)) (loadsI loads) P).isSome]) ∧ u = w' := fun u hu =>
        rpick_any _ _ _ P _ _ _ u (((((HW1.out.ext E2).ext E3).ext e4).ext hext).ext hu) ((((HS.out.ext E3).ext e4).ext hext).ext hu) (((HL.out.ext e4).ext hext).ext hu) (by omega) (loadsI_02 loads) hPb
      obtain ⟨X, hX⟩ : ∃ X, (pickOf (cnt (rowOf key (pointsOf p0 (idsI l))) (idsI some)) (loadsI loads) P).getD 0 = X := ⟨_, rfl⟩
      obtain ⟨T, hT⟩ : ∃ T, (pickOf (cnt (rowOf key (pointsOf p0 (idsI l))) (idsI some)) (loadsI loads) P).isSome = T := ⟨_, rfl⟩
      rw [hX, hT] at hpk hrp
      have hcz : ∀ wz : World, Ext wr wz → wz.cell? ⟨w3.heap.size, k, none⟩ = Option.some (.int .i64 P) := fun wz hz => (hz.cell (p := ⟨w3.heap.size, k, none⟩) (Nat.lt_of_lt_of_le hs4 hext.size)).trans hc
      have HPK := hide hpk
      have HRP := hide hrp
      have HCZ := hide hcz
      clear hX hT hpk hrp hcz hP hbk
      go_wp2_with fail
      refine HPK.out.mono ?_
      rintro e w5 ⟨rfl, E5⟩
      have hc5 := HCZ.out _ E5
      go_wp2_with fail
      refine (HRP.out _ E5).mono ?_
      rintro e w6 ⟨rfl, rfl⟩
      go_wp2
      go_roundw
      case rel => exact ⟨k + 1, hlt, by go_num, hext.trans E5⟩
      case measure => simp [intOf]; omega
    · obtain rfl : k = 2 := by omega
      go_wp2_with fail
      refine (lives10_any _).mono ?_
      rintro e w7 ⟨rfl, E7⟩
      go_wp2_with fail
      go_ret
      exact ⟨rfl, E1.trans (E2.trans (E3.trans (e4.trans (hext.trans E7))))⟩
end Go.Proofs.Ytfmoiepjbkhjfaa
