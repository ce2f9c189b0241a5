
/- ring.New of nothing. -/
import Derived.Test.YtoncfogihiapiaaRingN
namespace Go.Proofs.Ytoncfogihiapiaa
open Go.ChangeShapes Go.WideShapes Go.ChangeAt Go.RowKit Go.Sort
set_option maxRecDepth 100000 in
set_option maxHeartbeats 2000000 in
theorem new_none (cap : Nat) (p : Nat) (w : World) (hp : 1 ≤ p ∧ p ≤ 64) :
    Calls Try.prog 17 #[.slice none 0 cap, .int .i64 p] w fun e w' => ∃ r, e = .returned r ∧ RingNew w.heap.size w' r (ends []).length (pointsOf p []) ∧ Ext w w' := by
  go_enter Try.func17, Try.ntmps17
  go_wp2_with fail
  refine (Any.slices_Sort_int_none Try.l189 none 0 w).mono ?_
  rintro e w1 ⟨rfl, rfl⟩
  go_wp2_with fail
  refine (Any.slices_Compact_int_empty Try.l220 none 0 w1).mono ?_
  rintro e w2 ⟨rfl, rfl⟩
  have B0 : Ext w2 (w2.alloc (.cells #[.slice none 0 0, .int .i64 0] 66)) := (Below.refl _ _).alloc (Nat.le_refl _) _
  have hB := heap_alloc_new w2 (.cells #[.slice none 0 0, .int .i64 0] 66)
  have cv := cell_of2 hB
  have hsz : (w2.alloc (.cells #[.slice none 0 0, .int .i64 0] 66)).heap.size = w2.heap.size + 1 := by simp
  have HB := hide hB; clear hB
  go_wp2_with fail
  go_loopw [23] (fun i wr => i = .int .i64 0 ∧ wr = w2.alloc (.cells #[.slice none 0 0, .int .i64 0] 66)) (fun _ _ => 0)
  case atStart => exact ⟨rfl, rfl⟩
  case round =>
    obtain ⟨rfl, rfl⟩ := hrel
    go_wp2_with fail
    refine (sortf_own (ps := []) (World.ownsRow_nil _ (w2.heap.size + 1) _ _) (by omega) (by simp)).mono ?_
    rintro e w5 ⟨rfl, hP, b5⟩
    go_wp2_with fail
    go_ret
    have e1 : ends [] = [] := by simp [ends, srtI, Go.Lib.compact, Go.Lib.compactUpTo]
    have e2 : pointsOf p [] = [] := by rw [pointsOf, e1]; simp [raw, srtP]
    have e3 : srtP [] = [] := by simp [srtP]
    rw [e3] at hP
    refine ⟨_, rfl, ⟨by rw [e1]; simp, by rw [e2]; simp, w2.heap.size, none, 0, rfl, ?_, ?_⟩, ?_⟩
    · rw [e2, e1]; exact (b5.block _ (by omega)).trans HB.out
    · exact ⟨by rw [e2]; exact hP, Nat.le_refl _, fun ad e => by cases e⟩
    · exact B0.trans (Below.mono b5 (by omega))
theorem new_fresh (ids : List Int) (v : Value) (p : Nat) (w : World) (hs : Ints w v ids) (hp : 1 ≤ p ∧ p ≤ 64) (hl : ids.length ≤ 1000) :
    Calls Try.prog 17 #[v, .int .i64 p] w fun e w' => ∃ r, e = .returned r ∧ RingNew w.heap.size w' r (ends ids).length (pointsOf p ids) ∧ Ext w w' := by
  obtain ⟨_, a, cap, rfl⟩ := hs.shape
  cases a with
  | none =>
    have h0 : ids = [] := by
      cases ids with
      | nil => rfl
      | cons x xs => obtain ⟨b, off, e, _⟩ := hs.some (by simp); cases e
    subst h0
    exact new_none cap p w hp
  | some ad => exact new_some ids ad cap p w hs hp hl
theorem new_any (ids : List Int) (v : Value) (p : Nat) (w : World) (hs : Ints w v ids) (hp : 1 ≤ p ∧ p ≤ 64) (hl : ids.length ≤ 1000) :
    Calls Try.prog 17 #[v, .int .i64 p] w fun e w' => ∃ r, e = .returned r ∧ RingAt w' r (ends ids).length (pointsOf p ids) ∧ Ext w w' :=
  (new_fresh ids v p w hs hp hl).mono (by rintro e w' ⟨r, rfl, h, he⟩; exact ⟨r, rfl, h.at, he⟩)
end Go.Proofs.Ytoncfogihiapiaa
