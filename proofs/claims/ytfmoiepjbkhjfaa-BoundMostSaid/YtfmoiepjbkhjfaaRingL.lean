/- lives. -/
import Derived.Test.YtfmoiepjbkhjfaaRef01b
import Derived.Test.YtfmoiepjbkhjfaaRingX
namespace Go.Proofs.Ytfmoiepjbkhjfaa
open Go.ChangeShapes Go.WideShapes Go.ChangeAt Go.RowKit Go.Sort Go.Shelf
theorem ends_nil : ends [] = [] := by simp [ends, srtI, Go.Lib.compact, Go.Lib.compactUpTo]
theorem ends_one (x : Int) : ends [x] = [x] := sorted_ext (ends_sorted _) (by simp) (fun y => ends_mem _ y)
theorem points_nil (p : Nat) : pointsOf p [] = [] := by rw [pointsOf, ends_nil]; simp [raw, srtP]
theorem ofK_nil (key : Int) (p : Nat) : ofK key p [] = none := by rw [ofK, points_nil]; simp [rowOf, rotK, firsts]
theorem row_one (key : Int) (p : Nat) (hp : 0 < p) (x : Int) : rowOf key (pointsOf p [x]) = [x] := by
  have h : (rowOf key (pointsOf p [x])).Perm [x] := (List.perm_ext_iff_of_nodup (rowOf_nodup _ _) (by simp)).2 (fun y => rowOf_mem key p hp [x] y)
  exact List.perm_singleton.1 h
theorem ofK_one (key : Int) (p : Nat) (hp : 0 < p) (x : Int) : ofK key p [x] = some x := by rw [ofK, row_one key p hp]; rfl
theorem ints_nil (w : World) (c : Nat) (hc : c ≤ 9223372036854775807) : Ints w (.slice none 0 c) [] := ⟨by simp, none, c, rfl, by simpa using hc, fun i x hi => by simp at hi⟩
theorem ints_new (w : World) (xs : List Int) (hl : xs.length ≤ 9223372036854775807) : Ints (w.alloc (.cells (xs.map (Value.int .i64)).toArray 3)) (.slice (some ⟨w.heap.size, 0, none⟩) xs.length xs.length) xs := by
  refine ⟨hl, _, _, rfl, by omega, fun i x hi => ⟨w.heap.size, 0, rfl, by simp, fun j u hu => ?_⟩⟩
  match j, hu with
  | 0, hu =>
    simp [encI] at hu
    subst hu
    have := cells_new w (xs.map (Value.int .i64)) 3 i (.int .i64 x) (by rw [List.getElem?_map, hi]; rfl)
    rw [add_cell] at this
    simpa using this
set_option maxRecDepth 100000 in
set_option maxHeartbeats 2000000 in
theorem lives_any (w : World) : Calls Try.prog 20 #[] w fun e w' => e = .returned (.bool true) ∧ Ext w w' := by
  have hNew0 : ∀ u : World, Calls Try.prog 15 #[.slice none 0 0, .int .i64 3] u fun e w' => ∃ r, e = .returned r ∧ RingAt w' r 0 (pointsOf 3 []) ∧ Ext u w' := fun u => by
    have := new_any [] (.slice none 0 0) 3 u (ints_nil u 0 (by omega)) (by omega) (by simp)
    rwa [ends_nil] at this
  have hNew1 : ∀ u : World, Calls Try.prog 15 #[.slice (some ⟨u.heap.size, 0, none⟩) 1 1, .int .i64 2] (u.alloc (.cells #[.int .i64 5] 3)) fun e w' => ∃ r, e = .returned r ∧ RingAt w' r 1 (pointsOf 2 [5]) ∧ Ext (u.alloc (.cells #[.int .i64 5] 3)) w' := fun u => by
    have := new_any [5] (.slice (some ⟨u.heap.size, 0, none⟩) 1 1) 2 _ (ints_new u [5] (by simp)) (by omega) (by simp)
    rwa [ends_one] at this
  have hOf0 : ∀ (u : World) (r : Value), RingAt u r 0 (pointsOf 3 []) → Calls Try.prog 22 #[r, .int .u64 7] u fun e w' => e = .returned (.tuple #[.int .i64 0, .bool false]) ∧ Ext u w' := fun u r h => by
    have := of_any 7 h
    rwa [ofK_nil] at this
  have hOf1 : ∀ (u : World) (r : Value), RingAt u r 1 (pointsOf 2 [5]) → Calls Try.prog 22 #[r, .int .u64 1] u fun e w' => e = .returned (.tuple #[.int .i64 5, .bool true]) ∧ Ext u w' := fun u r h => by
    have := of_any 1 h
    rwa [ofK_one 1 2 (by omega)] at this
  have hRow : ∀ (u : World) (r : Value), RingAt u r 1 (pointsOf 2 [5]) → Calls Try.prog 19 #[r, .int .u64 9223372036854775808] u fun e w' => ∃ v, e = .returned v ∧ Ints w' v [5] ∧ Ext u w' := fun u r h => by
    have := row_ints (ids := [5]) (p := 2) 9223372036854775808 (by omega) (by rw [ends_one]; exact h)
    rwa [row_one _ 2 (by omega)] at this
  have hSame : ∀ (u : World) (a b : Value), Ints u a [5] → Ints u b [5] → Calls Try.prog 18 #[a, b] u fun e w' => e = .returned (.bool true) ∧ Ext u w' := fun u a b ha hb =>
    (sameInts_any [5] [5] a b u ha hb).mono (by rintro e w' ⟨rfl, he⟩; exact ⟨by simp [sameInts], he⟩)
  have HN0 := hide hNew0
  have HN1 := hide hNew1
  have HO0 := hide hOf0
  have HO1 := hide hOf1
  have HRW := hide hRow
  have HS := hide hSame
  clear hNew0 hNew1 hOf0 hOf1 hRow hSame
  go_enter Try.func20, Try.ntmps20
  go_wp2_with fail
  refine (HN0.out _).mono ?_
  rintro e w1 ⟨r1, rfl, hr1, E1⟩
  go_wp2_with fail
  refine (HO0.out _ _ hr1).mono ?_
  rintro e w2 ⟨rfl, E2⟩
  go_wp2_with fail
  refine (HN1.out _).mono ?_
  rintro e w3 ⟨r3, rfl, hr3, E3⟩
  go_wp2_with fail
  refine (HO1.out _ _ hr3).mono ?_
  rintro e w4 ⟨rfl, E4⟩
  have hr4 := hr3.ext E4
  go_wp2_with fail
  refine (HRW.out _ _ hr4).mono ?_
  rintro e w5 ⟨v5, rfl, h5, E5⟩
  have e6 : Ext w5 (w5.alloc (.cells #[.int .i64 5] 3)) := (Below.refl _ w5).alloc (Nat.le_refl _) _
  have h5' := h5.ext e6
  have hr6 := (hr4.ext E5).ext e6
  have HI5 := hide h5'
  go_wp2_with fail
  refine (HS.out _ _ _ HI5.out (ints_new w5 [5] (by simp))).mono ?_
  rintro e w7 ⟨rfl, E7⟩
  go_wp2_with fail
  refine (len_any (hr6.ext E7)).mono ?_
  rintro e w8 ⟨rfl, rfl⟩
  go_wp2_with fail
  go_ret
  have e2 : Ext w2 (w2.alloc (.cells #[.int .i64 5] 3)) := (Below.refl _ w2).alloc (Nat.le_refl _) _
  exact ⟨rfl, E1.trans (E2.trans (e2.trans (E3.trans (E4.trans (E5.trans (e6.trans E7))))))⟩
end Go.Proofs.Ytfmoiepjbkhjfaa
