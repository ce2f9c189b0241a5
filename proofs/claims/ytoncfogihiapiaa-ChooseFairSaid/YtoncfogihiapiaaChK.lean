/- choose.Pick by ring. -/
import Derived.Test.YtoncfogihiapiaaChJ
namespace Go.Proofs.Ytoncfogihiapiaa
open Go.ChangeShapes Go.WideShapes Go.ChangeAt Go.RowKit Go.Maps Go.Shelf
set_option maxRecDepth 100000 in
set_option maxHeartbeats 2000000 in
theorem clos2_any (W : World) (b7 b9 b8 : Nat) (Br : Nat) (key : Int) (S : List Int) (a : Option Addr) (cap : Nat) (p0 : Nat) (I : List Int) (c7 : W.cell? ⟨b7, 0, none⟩ = some (.pointer (some ⟨Br, 0, none⟩))) (c9 : W.cell? ⟨b9, 0, none⟩ = some (.int .u64 key)) (c8 : W.cell? ⟨b8, 0, none⟩ = some (.slice a S.length cap)) (l8 : b8 < W.heap.size) (l7 : b7 < W.heap.size) (l9 : b9 < W.heap.size)
    (hr : RingAt W (.pointer (some ⟨Br, 0, none⟩)) (ends I).length (pointsOf p0 I)) (hp0 : 0 < p0) (hI : ∀ x ∈ I, I64 x) (hs : Ints W (.slice a S.length cap) S) :
    Calls Try.prog 28 #[.pointer (some ⟨b7, 0, none⟩), .pointer (some ⟨b9, 0, none⟩), .pointer (some ⟨b8, 0, none⟩)] W fun e w' => e = .returned (.tuple #[.int .i64 (((cnt (rowOf key (pointsOf p0 I)) S).head?).getD 0), .bool ((cnt (rowOf key (pointsOf p0 I)) S).head?).isSome]) ∧ Ext W w' := by
  have hd : Ext W W.drew := (Below.refl _ W).drew
  have hrow : Calls Try.prog 30 #[.pointer (some ⟨Br, 0, none⟩), .int .u64 key] W.drew fun e w' => ∃ v, e = .returned v ∧ Ints w' v (rowOf key (pointsOf p0 I)) ∧ Ext W.drew w' := row_ints key hp0 (hr.ext hd)
  have hrb : ∀ x ∈ rowOf key (pointsOf p0 I), I64 x := fun x hx => hI x ((rowOf_mem key p0 hp0 I x).1 hx)
  obtain ⟨row, hw⟩ : ∃ row, rowOf key (pointsOf p0 I) = row := ⟨_, rfl⟩
  rw [hw] at hrow hrb ⊢
  have hby : ∀ (X : World) (v : Value), Ext W X → Ints X v row → Calls Try.prog 29 #[v, .slice a S.length cap] X fun e w' => e = .returned (.tuple #[.int .i64 (((cnt row S).head?).getD 0), .bool ((cnt row S).head?).isSome]) ∧ Ext X w' := fun X v hX hv => byRing_any row S v a cap X hv (hs.ext hX) hrb
  have HROW := hide hrow
  have HBY := hide hby
  have hc8 : ∀ X : World, Ext W.drew X → X.cell? ⟨b7, 0, none⟩ = some (.pointer (some ⟨Br, 0, none⟩)) ∧ X.cell? ⟨b9, 0, none⟩ = some (.int .u64 key) ∧ X.cell? ⟨b8, 0, none⟩ = some (.slice a S.length cap) := fun X hX => ⟨(hX.cell (p := ⟨b7, 0, none⟩) l7).trans c7, (hX.cell (p := ⟨b9, 0, none⟩) l9).trans c9, (hX.cell (p := ⟨b8, 0, none⟩) l8).trans c8⟩
  have HC8 := hide hc8
  have HD := hide hd
  clear hw hrow hby hr hs hc8 hd hrb
  go_enter Try.func28, Try.ntmps28
  go_wp2_with fail
  go_region_held3 (fun w' => w'.cell? ⟨b7, 0, none⟩ = some (.pointer (some ⟨Br, 0, none⟩)) ∧ w'.cell? ⟨b9, 0, none⟩ = some (.int .u64 key) ∧ w'.cell? ⟨b8, 0, none⟩ = some (.slice a S.length cap))
    (first
      | exact HC8.out _ (E7.trans E8)
      | exact HC8.out _ E7
      | exact HC8.out _ (Below.refl _ _))
    (first
      | (go_at_call 29; refine (HBY.out _ _ (HD.out.trans E7) hv7).mono ?_; rintro e w8 ⟨rfl, E8⟩)
      | (go_at_call 30; refine HROW.out.mono ?_; rintro e w7 ⟨v7, rfl, hv7, E7⟩))
  all_goals
    go_wp2
    go_ret2
    exact ⟨rfl, HD.out.trans (E7.trans E8)⟩
end Go.Proofs.Ytoncfogihiapiaa
