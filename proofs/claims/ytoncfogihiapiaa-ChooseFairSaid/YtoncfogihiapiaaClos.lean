
/- The order of points: ring.New's closure. -/
import Derived.StillTailTactics
import Derived.Sort.Grow
import Derived.Test.YtoncfogihiapiaaCmp
namespace Go.Proofs.Ytoncfogihiapiaa
open Go.ChangeShapes Go.WideShapes Go.ChangeAt Go.RowKit
/-- a point's two cells -/
def encQ (p : Int × Int) : List Value := [.int .u64 p.1, .int .i64 p.2]
abbrev Pts := Sl encQ 2
def cfP (x y : Int × Int) : Int := orI (cmpI x.1 y.1) (cmpI x.2 y.2)
set_option maxRecDepth 100000 in
set_option maxHeartbeats 1000000 in
theorem clos_any (x y : Int × Int) (W : World) : Calls Try.prog 37 #[.agg #[.int .u64 x.1, .int .i64 x.2], .agg #[.int .u64 y.1, .int .i64 y.2]] W fun e w' => e = .returned (.int .i64 (cfP x y)) ∧ ∃ q os', w' = Go.Sort.grow (W.drewN q) os' := by
  have hf : orI (cmpI x.1 y.1) (cmpI x.2 y.2) = cfP x y := rfl
  have HF := hide hf; clear hf
  obtain ⟨x1, x2⟩ := x
  obtain ⟨y1, y2⟩ := y
  have c1 := cmpU_any x1 y1
  have c2 := cmpI_any x2 y2
  have hor : ∀ W' : World, Calls Try.prog 38 #[.slice (some ⟨W'.heap.size, 0, none⟩) 2 2] (W'.alloc (.cells #[.int .i64 (cmpI x1 y1), .int .i64 (cmpI x2 y2)] 3)) fun e w' => e = .returned (.int .i64 (cfP (x1, x2) (y1, y2))) ∧ W'.alloc (.cells #[.int .i64 (cmpI x1 y1), .int .i64 (cmpI x2 y2)] 3) = w' := fun W' => or2_any _ _ _ _ _ (by rw [← add_cell]; exact cells_new W' [.int .i64 (cmpI x1 y1), .int .i64 (cmpI x2 y2)] 3 0 _ rfl) (by rw [← add_cell]; exact cells_new W' [.int .i64 (cmpI x1 y1), .int .i64 (cmpI x2 y2)] 3 1 _ rfl)
  have HOR := hide hor; clear hor
  have C1 := hide c1; clear c1
  have C2 := hide c2; clear c2
  clear HF
  generalize cfP (x1, x2) (y1, y2) = r at HOR ⊢
  generalize cmpI x1 y1 = r1 at C1 HOR
  generalize cmpI x2 y2 = r2 at C2 HOR
  go_enter Try.func37, Try.ntmps37
  go_wp2_with fail
  obtain ⟨w2, hw2⟩ : ∃ w2, ((W.alloc (.cells #[.int .u64 x1, .int .i64 x2] 69)).alloc (.cells #[.int .u64 y1, .int .i64 y2] 69)) = w2 := ⟨_, rfl⟩
  have d1 : w2.cell? ⟨W.heap.size, 0, none⟩ = some (.int .u64 x1) := by subst hw2; go_simp
  have d2 : w2.cell? ⟨W.heap.size, 1, none⟩ = some (.int .i64 x2) := by subst hw2; go_simp
  have d3 : w2.cell? ⟨W.heap.size + 1, 0, none⟩ = some (.int .u64 y1) := by subst hw2; go_simp
  have d4 : w2.cell? ⟨W.heap.size + 1, 1, none⟩ = some (.int .i64 y2) := by subst hw2; go_simp
  have hg : Go.Sort.grow W (#[.cells #[.int .u64 x1, .int .i64 x2] 69, .cells #[.int .u64 y1, .int .i64 y2] 69]) = w2 := by
    rw [← hw2, Go.Sort.alloc_eq_grow, Go.Sort.alloc_eq_grow, Go.Sort.grow_grow]; rfl
  rw [hw2]
  clear hw2
  refine wp_region_still_tail 10 (by kernel_rfl) (by kernel_rfl) ?_
  simp only [List.take_succ_cons, List.take_zero, List.drop_succ_cons, List.drop_zero]
  repeat still_step
  still_call ((C1.out _).mono fun _ _ h => ⟨h.1, h.2.symm⟩)
  repeat still_step
  still_call ((C2.out _).mono fun _ _ h => ⟨h.1, h.2.symm⟩)
  refine wpStill_nil ?_
  change wpList _ _ _ _ _ w2.drew
  go_wp2_with (go_at_call 38; refine (HOR.out w2.drew).mono ?_; rintro e w6 ⟨rfl, rfl⟩)
  go_ret
  refine ⟨rfl, 1, (#[.cells #[.int .u64 x1, .int .i64 x2] 69, .cells #[.int .u64 y1, .int .i64 y2] 69] ++ #[.cells #[.int .i64 r1, .int .i64 r2] 3]), ?_⟩
  rw [← hg, Go.Sort.alloc_eq_grow, Go.Sort.grow_grow]
  rfl
end Go.Proofs.Ytoncfogihiapiaa
