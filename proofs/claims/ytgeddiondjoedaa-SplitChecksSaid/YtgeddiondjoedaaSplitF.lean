/- counts, lives of layer 6's statements. -/
import Derived.Test.YtgeddiondjoedaaSplitE
import Derived.Test.YtgeddiondjoedaaRef01b
namespace Go.Proofs.Ytgeddiondjoedaa
open Go.ChangeShapes Go.WideShapes Go.ChangeAt Go.RowKit
/-- the document's example -/
def exL : List (Int × Int) := [(1, 3), (2, 1)]
theorem exL_fits : SumFits exL := by
  intro k hk
  have : k = 0 ∨ k = 1 ∨ k = 2 := by simp [exL] at hk; omega
  rcases this with rfl | rfl | rfl <;> decide
theorem exL_at (w : World) : Parts (w.alloc (.cells #[.int .i64 1, .int .i64 3, .int .i64 2, .int .i64 1] 25)) (.slice (some ⟨w.heap.size, 0, none⟩) 2 2) exL := by
  refine ⟨by decide, some ⟨w.heap.size, 0, none⟩, 2, rfl, by decide, ?_⟩
  intro i x hi
  refine ⟨w.heap.size, 0, rfl, by simp, ?_⟩
  intro j u hu
  have hc := cells_new w [.int .i64 1, .int .i64 3, .int .i64 2, .int .i64 1] 25 (i * 2 + j)
  rw [add_cell] at hc
  rw [Nat.zero_add]
  apply hc
  match i, hi with
  | 0, hi => cases hi; match j, hu with
    | 0, hu => exact hu
    | 1, hu => exact hu
  | 1, hi => cases hi; match j, hu with
    | 0, hu => exact hu
    | 1, hu => exact hu

set_option maxHeartbeats 4000000 in
theorem lives_any (w : World) : Calls Try.prog 16 #[] w fun e w' => e = .returned (.bool true) ∧ Ext w w' := by
  have hP := exL_at w
  have hb := exL_fits
  have hI : ∀ p ∈ exL, I64 p.1 ∧ I64 p.2 := by decide
  have HP := hide hP; clear hP
  have HB := hide hb; clear hb
  have HI := hide hI; clear hI
  have hE : Ext w (w.alloc (.cells #[.int .i64 1, .int .i64 3, .int .i64 2, .int .i64 1] 25)) := (Below.refl _ _).alloc (Nat.le_refl _) _
  have hc : check exL = 0 := by decide
  have hs : sumW exL = 4 := by decide
  have p0 : pick exL 0 = 1 := by decide
  have p2 : pick exL 2 = 1 := by decide
  have p3 : pick exL 3 = 2 := by decide
  have p4 : pick exL 4 = 1 := by decide
  have e6 : eachB 3 6 = true := by decide
  have e7 : eachB 3 7 = false := by decide
  go_enter Try.func16, Try.ntmps16
  go_wp2_with fail
  refine (check_any exL _ _ HP.out HI.out (by decide)).mono ?_
  rintro e w1 ⟨rfl, h1⟩
  rw [hc]
  have E1 := hE.trans h1
  go_wp2_with fail
  refine (sum_any exL _ _ (HP.out.ext h1) HB.out).mono ?_
  rintro e w2 ⟨rfl, h2⟩
  rw [hs]
  go_wp2_with fail
  refine (pick_any exL _ 0 _ ((HP.out.ext h1).ext h2) HB.out (by decide)).mono ?_
  rintro e w3 ⟨rfl, h3⟩
  rw [p0]
  go_wp2_with fail
  refine (pick_any exL _ 2 _ (((HP.out.ext h1).ext h2).ext h3) HB.out (by decide)).mono ?_
  rintro e w4 ⟨rfl, h4⟩
  rw [p2]
  go_wp2_with fail
  refine (pick_any exL _ 3 _ ((((HP.out.ext h1).ext h2).ext h3).ext h4) HB.out (by decide)).mono ?_
  rintro e w5 ⟨rfl, h5⟩
  rw [p3]
  go_wp2_with fail
  refine (pick_any exL _ 4 _ (((((HP.out.ext h1).ext h2).ext h3).ext h4).ext h5) HB.out (by decide)).mono ?_
  rintro e w6 ⟨rfl, h6⟩
  rw [p4]
  go_wp2_with fail
  refine (each_any 3 6 _ (by decide) (by decide)).mono ?_
  rintro e w7 ⟨rfl, rfl⟩
  rw [e6]
  go_wp2_with fail
  refine (each_any 3 7 _ (by decide) (by decide)).mono ?_
  rintro e w8 ⟨rfl, rfl⟩
  rw [e7]
  go_wp2_with fail
  go_ret
  exact ⟨rfl, ((((hE.trans h1).trans h2).trans h3).trans h4).trans h5 |>.trans h6⟩
end Go.Proofs.Ytgeddiondjoedaa
