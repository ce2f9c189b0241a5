/- The laws of layer 10: lives, of. -/
import Derived.Test.YtfmoiepjbkhjfaaRingL
import Derived.Test.YtfmoiepjbkhjfaaBndF
namespace Go.Proofs.Ytfmoiepjbkhjfaa
open Go.ChangeShapes Go.WideShapes Go.ChangeAt Go.RowKit Go.Maps Go.Shelf
theorem RingAt.shape {w : World} {r : Value} {n : Nat} {P : List (Int × Int)} (h : RingAt w r n P) : ∃ B, r = .pointer (some ⟨B, 0, none⟩) := by
  obtain ⟨_, _, B, a, cap, rfl, _⟩ := h; exact ⟨B, rfl⟩
theorem parts_nil (w : World) (c : Nat) (hc : c ≤ 9223372036854775807) : Parts w (.slice none 0 c) [] := ⟨by simp, none, c, rfl, by simpa using hc, fun i x hi => by simp at hi⟩
theorem live1 : pickOf (cnt [4] [4, 5]) [] 125 = some 4 := by decide
theorem live2 : pickOf (cnt [4] [5]) [] 125 = none := by decide
set_option maxRecDepth 100000 in
set_option maxHeartbeats 2000000 in
theorem lives10_any (w : World) : Calls Try.prog 26 #[] w fun e w' => e = .returned (.bool true) ∧ Ext w w' := by
  have hNew : ∀ u : World, Calls Try.prog 15 #[.slice (some ⟨u.heap.size, 0, none⟩) 1 1, .int .i64 3] (u.alloc (.cells #[.int .i64 4] 3)) fun e w' => ∃ r, e = .returned r ∧ RingAt w' r (ends [4]).length (pointsOf 3 [4]) ∧ Ext (u.alloc (.cells #[.int .i64 4] 3)) w' := fun u =>
    new_any [4] (.slice (some ⟨u.heap.size, 0, none⟩) 1 1) 3 _ (ints_new u [4] (by simp)) (by omega) (by simp)
  have hP1 : ∀ (u : World) (r : Value), RingAt u r (ends [4]).length (pointsOf 3 [4]) → Calls Try.prog 30 #[r, .int .u64 9, .slice (some ⟨u.heap.size, 0, none⟩) 2 2, .slice none 0 0, .int .i64 125] (u.alloc (.cells #[.int .i64 4, .int .i64 5] 3)) fun e w' => e = .returned (.tuple #[.int .i64 4, .bool true]) ∧ Ext (u.alloc (.cells #[.int .i64 4, .int .i64 5] 3)) w' := fun u r h => by
    have := pick_any [4] [4, 5] [] 3 9 125 r (.slice (some ⟨u.heap.size, 0, none⟩) 2 2) (.slice none 0 0) _ (h.ext ((Below.refl _ u).alloc (Nat.le_refl _) _)) (ints_new u [4, 5] (by simp)) (parts_nil _ 0 (by omega)) (by omega) (by simp) (by decide) (by simp) (by decide) (by simp) (by simp) (by simp) (by omega)
    rw [row_one _ 3 (by omega), live1] at this
    exact this
  have hP2 : ∀ (u : World) (r : Value), RingAt u r (ends [4]).length (pointsOf 3 [4]) → Calls Try.prog 30 #[r, .int .u64 9, .slice (some ⟨u.heap.size, 0, none⟩) 1 1, .slice none 0 0, .int .i64 125] (u.alloc (.cells #[.int .i64 5] 3)) fun e w' => e = .returned (.tuple #[.int .i64 0, .bool false]) ∧ Ext (u.alloc (.cells #[.int .i64 5] 3)) w' := fun u r h => by
    have := pick_any [4] [5] [] 3 9 125 r (.slice (some ⟨u.heap.size, 0, none⟩) 1 1) (.slice none 0 0) _ (h.ext ((Below.refl _ u).alloc (Nat.le_refl _) _)) (ints_new u [5] (by simp)) (parts_nil _ 0 (by omega)) (by omega) (by simp) (by decide) (by simp) (by decide) (by simp) (by simp) (by simp) (by omega)
    rw [row_one _ 3 (by omega), live2] at this
    exact this
  have hC : ∀ u : World, Calls Try.prog 24 #[.int .i64 7, .int .i64 4, .int .i64 125] u fun e w' => e = .returned (.int .i64 3) ∧ u = w' := fun u => cap_any 7 4 125 u (by omega) (by omega) (by omega)
  have HN := hide hNew
  have HP1 := hide hP1
  have HP2 := hide hP2
  have HC := hide hC
  clear hNew hP1 hP2 hC
  go_enter Try.func26, Try.ntmps26
  go_wp2_with fail
  refine (HN.out _).mono ?_
  rintro e w1 ⟨r1, rfl, hr1, E1⟩
  obtain ⟨B, rfl⟩ := hr1.shape
  have HR1 := hide hr1
  clear hr1
  go_wp2_with fail
  refine (HP1.out _ _ HR1.out).mono ?_
  rintro e w2 ⟨rfl, E2⟩
  have e1 : Ext w1 (w1.alloc (.cells #[.int .i64 4, .int .i64 5] 3)) := (Below.refl _ w1).alloc (Nat.le_refl _) _
  have HR2 := hide ((HR1.out.ext e1).ext E2)
  go_wp2_with fail
  refine (HP2.out _ _ HR2.out).mono ?_
  rintro e w3 ⟨rfl, E3⟩
  go_wp2_with fail
  refine (HC.out _).mono ?_
  rintro e w4 ⟨rfl, rfl⟩
  go_wp2_with fail
  go_ret
  have e0 : Ext w (w.alloc (.cells #[.int .i64 4] 3)) := (Below.refl _ _).alloc (Nat.le_refl _) _
  have e2 : Ext w2 (w2.alloc (.cells #[.int .i64 5] 3)) := (Below.refl _ _).alloc (Nat.le_refl _) _
  exact ⟨rfl, e0.trans (E1.trans (e1.trans (E2.trans (e2.trans E3))))⟩
set_option maxRecDepth 100000 in
set_option maxHeartbeats 2000000 in
theorem of10r_any (l : List Int) (points key : Int) (v : Value) (w : World) (hs : Ints w v l) (hli : ∀ x ∈ l, I64 x) (hp : I64 points) :
    ∃ p : Nat, (1 ≤ p ∧ p ≤ 8) ∧ Calls Try.prog 27 #[v, .int .i64 points, .int .u64 key] w fun e w' => ∃ B v', e = .returned (.tuple #[.pointer (some ⟨B, 0, none⟩), v']) ∧ RingAt w' (.pointer (some ⟨B, 0, none⟩)) (ends (idsI l)).length (pointsOf p (idsI l)) ∧ Ints w' v' (rowOf key (pointsOf p (idsI l))) ∧ Ext w w' := by
  obtain ⟨hl', a, cap, rfl⟩ := hs.shape
  have HC := hide hs; clear hs
  have HL := hide hli; clear hli
  have hil := idsI_len l
  have b1 := around_bd points 8 (by omega)
  have har : ∀ u : World, Calls Try.prog 14 #[.int .i64 points, .int .i64 8] u fun e w' => e = .returned (.int .i64 (around points 8)) ∧ u = w' := fun u => around_any points 8 u hp (by omega)
  obtain ⟨q, hq⟩ : ∃ q : Nat, around points 8 = q := ⟨(around points 8).toNat, by omega⟩
  rw [hq] at har b1
  refine ⟨1 + q, by omega, ?_⟩
  have hnew : ∀ (u : World) (v : Value), Ints u v (idsI l) → Calls Try.prog 15 #[v, .int .i64 (1 + q)] u fun e w' => ∃ r, e = .returned r ∧ RingAt w' r (ends (idsI l)).length (pointsOf (1 + q) (idsI l)) ∧ Ext u w' := fun u v h => by
    have := new_any (idsI l) v (1 + q) u h (by omega) (by omega)
    have e : ((1 + q : Nat) : Int) = 1 + (q : Int) := by omega
    rw [e] at this
    exact this
  have HAR := hide har
  have HNEW := hide hnew
  clear har hnew hq
  go_enter Try.func27, Try.ntmps27
  go_wp2_with fail
  refine (ids_any l _ _ HC.out HL.out).mono ?_
  rintro e w1 ⟨v1, rfl, ho1, E1⟩
  have h1 := own_ints_b ho1 (by omega)
  have H1 := hide h1
  clear ho1 h1
  go_wp2_with fail
  refine (HAR.out _).mono ?_
  rintro e w1' ⟨rfl, rfl⟩
  go_wp2_with fail
  refine (HNEW.out _ _ H1.out).mono ?_
  rintro e w2 ⟨r2, rfl, hr2, E2⟩
  obtain ⟨B, rfl⟩ := hr2.shape
  have HR2 := hide hr2
  clear hr2
  go_wp2_with fail
  refine (row_ints key (by omega) HR2.out).mono ?_
  rintro e w3 ⟨v3, rfl, h3, E3⟩
  go_wp2_with fail
  go_ret2
  exact ⟨B, v3, rfl, HR2.out.ext E3, h3, E1.trans (E2.trans E3)⟩
end Go.Proofs.Ytfmoiepjbkhjfaa
