
/- Some text, some heads: ref01.Decimal, ref05.Text, ref04.One, set, Heads. -/
import Derived.Laws.BytesArg
import Derived.Test.YtopejlachgompaaGreatDoorZg
namespace Go.Proofs.YtopejlachgompaaGreatDoor
open Go.ChangeShapes Go.WideShapes Go.ChangeAt Go.RowKit Go.Lib Go.Shelf
theorem conv_digit (w : World) (r : Int) : (convert 175 9 (.slice (some ⟨w.heap.size, 0, none⟩) 1 1)).run Tryz.prog (w.alloc (.cells #[.int .u8 (48 + r)] 5)) = .ok (.string (strOfNums [48 + r])) (w.alloc (.cells #[.int .u8 (48 + r)] 5)) :=
 run_convert_bytes_arg _ 175 5 Tryz.underlying175 Tryz.underlying5 w.heap.size 0 1 1 [48 + r] rfl (fun i hi => by
  obtain rfl : i = 0 := by omega
  have := cells_new w [.int .u8 (48 + r)] 5 0 _ rfl
  rw [add_cell] at this
  simp) _ Tryz.underlying9
set_option maxRecDepth 100000 in
set_option maxHeartbeats 4000000 in
theorem decimal_any : ∀ (d n : Nat) (w : World), n < 10 ^ (d + 1) → d ≤ 6 →
  Calls Tryz.prog 79 #[.int .i64 n] w fun e w' => ∃ s, e = .returned (.string s) ∧ s.size ≤ d + 1 ∧ Ext w w' := by
 intro d
 induction d with
 | zero =>
  intro n w hn _
  have hn10 : n < 10 := by simpa using hn
  have hr : ((n : Nat) : Int).tmod 10 = (n : Int) := by rw [Int.tmod_eq_emod_of_nonneg (by omega)]; omega
  have h0 : ¬ ((n : Nat) : Int) < 0 := by omega
  have h1 : ((n : Nat) : Int) > -10 := by omega
  have h2 : ((n : Nat) : Int) < 10 := by omega
  have hcv := conv_digit w n
  have wz1 : IntKind.i64.wrap (48 + (n : Int)) = 48 + (n : Int) := IntWalk.i64_in _ (by omega)
  have wz2 : IntKind.u8.wrap (48 + (n : Int)) = 48 + (n : Int) := by
   exact IntWalk.u8_in _ (by omega)
  clear hn
  go_enter Tryz.func79, Tryz.ntmps79
  go_upto_region 4 with (fail)
  refine wp_region_lit ?_
  refine wpList_plain rfl fun K hK => ?_
  go_simp
  refine hK _ _ ?_
  refine wpList_plain rfl fun K hK => ?_
  go_simp
  refine hK _ _ ?_
  refine wpList_plain rfl fun K hK => ?_
  go_simp
  refine hK _ _ ?_
  refine wpList_plain rfl fun K hK => ?_
  go_simp
  refine hK _ _ ?_
  refine wpList_plain rfl fun K hK => ?_
  go_simp
  refine hK _ _ ?_
  refine wpList_plain rfl fun K hK => ?_
  go_simp
  refine hK _ _ ?_
  refine wpList_nil ?_
  clear hcv wz1 wz2
  generalize hW : w.alloc (.cells #[.int .u8 (48 + (n : Int))] 5) = W1
  have hx1 : Ext w W1 := by subst hW; exact (Below.refl _ w).alloc (Nat.le_refl _) _
  have hs1 : (strOfNums [48 + (n : Int)]).size = 1 := rfl
  generalize strOfNums [48 + (n : Int)] = s1 at *
  clear hW
  go_wp2
  go_ret
  exact ⟨_, rfl, by omega, hx1⟩
 | succ d ih =>
  intro n w hn hd
  have hp : 10 ^ (d + 1 + 1) ≤ 10 ^ 8 := Nat.pow_le_pow_right (by omega) (by omega)
  have hnb : n < 100000000 := by omega
  by_cases hn10 : n < 10
  ·have hr : ((n : Nat) : Int).tmod 10 = (n : Int) := by rw [Int.tmod_eq_emod_of_nonneg (by omega)]; omega
   have h0 : ¬ ((n : Nat) : Int) < 0 := by omega
   have h1 : ((n : Nat) : Int) > -10 := by omega
   have h2 : ((n : Nat) : Int) < 10 := by omega
   have hcv := conv_digit w n
   have wz1 : IntKind.i64.wrap (48 + (n : Int)) = 48 + (n : Int) := IntWalk.i64_in _ (by omega)
   have wz2 : IntKind.u8.wrap (48 + (n : Int)) = 48 + (n : Int) := by
    exact IntWalk.u8_in _ (by omega)
   clear hn hp ih
   go_enter Tryz.func79, Tryz.ntmps79
   go_upto_region 4 with (fail)
   refine wp_region_lit ?_
   refine wpList_plain rfl fun K hK => ?_
   go_simp
   refine hK _ _ ?_
   refine wpList_plain rfl fun K hK => ?_
   go_simp
   refine hK _ _ ?_
   refine wpList_plain rfl fun K hK => ?_
   go_simp
   refine hK _ _ ?_
   refine wpList_plain rfl fun K hK => ?_
   go_simp
   refine hK _ _ ?_
   refine wpList_plain rfl fun K hK => ?_
   go_simp
   refine hK _ _ ?_
   refine wpList_plain rfl fun K hK => ?_
   go_simp
   refine hK _ _ ?_
   refine wpList_nil ?_
   clear hcv wz1 wz2
   generalize hW : w.alloc (.cells #[.int .u8 (48 + (n : Int))] 5) = W1
   have hx1 : Ext w W1 := by subst hW; exact (Below.refl _ w).alloc (Nat.le_refl _) _
   have hs1 : (strOfNums [48 + (n : Int)]).size = 1 := rfl
   generalize strOfNums [48 + (n : Int)] = s1 at *
   clear hW
   go_wp2
   go_ret
   exact ⟨_, rfl, by omega, hx1⟩
  ·have hr : ((n : Nat) : Int).tmod 10 = ((n % 10 : Nat) : Int) := by rw [Int.tmod_eq_emod_of_nonneg (by omega)]; omega
   have hq : ((n : Nat) : Int).tdiv 10 = ((n / 10 : Nat) : Int) := by rw [Int.tdiv_eq_ediv_of_nonneg (by omega)]; omega
   have hc := fun X => ih (n / 10) X (by rw [Nat.pow_succ] at hn; omega) (by omega)
   obtain ⟨q, hqq⟩ : ∃ q, n / 10 = q := ⟨_, rfl⟩
   obtain ⟨r, hrr⟩ : ∃ q, n % 10 = q := ⟨_, rfl⟩
   have hr10 : r < 10 := by omega
   have hqb : q < 100000000 := by omega
   rw [hqq] at hq hc
   rw [hrr] at hr
   have HC := hide hc
   have h0 : ¬ ((r : Nat) : Int) < 0 := by omega
   have h1 : ((n : Nat) : Int) > -10 := by omega
   have h2 : ¬ ((n : Nat) : Int) < 10 := by omega
   have hcv := conv_digit w r
   have wz1 : IntKind.i64.wrap (48 + (r : Int)) = 48 + (r : Int) := IntWalk.i64_in _ (by omega)
   have wz2 : IntKind.u8.wrap (48 + (r : Int)) = 48 + (r : Int) := by
    exact IntWalk.u8_in _ (by omega)
   clear hn hp ih hc hqq hrr
   go_enter Tryz.func79, Tryz.ntmps79
   go_upto_region 4 with (fail)
   refine wp_region_lit ?_
   refine wpList_plain rfl fun K hK => ?_
   go_simp
   refine hK _ _ ?_
   refine wpList_plain rfl fun K hK => ?_
   go_simp
   refine hK _ _ ?_
   refine wpList_plain rfl fun K hK => ?_
   go_simp
   refine hK _ _ ?_
   refine wpList_plain rfl fun K hK => ?_
   go_simp
   refine hK _ _ ?_
   refine wpList_plain rfl fun K hK => ?_
   go_simp
   refine hK _ _ ?_
   refine wpList_plain rfl fun K hK => ?_
   go_simp
   refine hK _ _ ?_
   refine wpList_nil ?_
   clear hcv wz1 wz2
   generalize hW : w.alloc (.cells #[.int .u8 (48 + (r : Int))] 5) = W1
   have hx1 : Ext w W1 := by subst hW; exact (Below.refl _ w).alloc (Nat.le_refl _) _
   have hs1 : (strOfNums [48 + (r : Int)]).size = 1 := rfl
   generalize strOfNums [48 + (r : Int)] = s1 at *
   clear hW
   go_wp2_with fail
   refine (HC.out _).mono ?_
   rintro e w5 ⟨s, rfl, hs, E5⟩
   have hs9 : s.size ≤ 9 := by omega
   have hs10 : s1.size ≤ 1 := by omega
   have HS := hide hs
   have HS1 := hide hs1
   clear hs hs1 hr hq h0 h1 h2 hr10 hnb hd hn10
   go_wp2
   go_ret
   refine ⟨_, rfl, ?_, Ext.trans hx1 E5⟩
   rw [ByteArray.size_append]
   have := HS.out
   omega
end Go.Proofs.YtopejlachgompaaGreatDoor
