
/- lives. -/
import Derived.Test.YtoncfogihiapiaaRef01b
import Derived.Test.YtoncfogihiapiaaRingX
namespace Go.Proofs.Ytoncfogihiapiaa
open Go.ChangeShapes Go.WideShapes Go.ChangeAt Go.RowKit Go.Sort Go.Shelf
theorem ends_nil : ends [] = [] := by simp [ends, srtI, Go.Lib.compact, Go.Lib.compactUpTo]
theorem ends_one (x : Int) : ends [x] = [x] := sorted_ext (ends_sorted _) (by simp) (fun y => ends_mem _ y)
theorem points_nil (p : Nat) : pointsOf p [] = [] := by rw [pointsOf, ends_nil]; simp [raw, srtP]
theorem ofK_nil (key : Int) (p : Nat) : ofK key p [] = none := by rw [ofK, points_nil]; simp [rowOf, rotK, firsts]
theorem row_one (key : Int) (p : Nat) (hp : 0 < p) (x : Int) : rowOf key (pointsOf p [x]) = [x] := by
  have h : (rowOf key (pointsOf p [x])).Perm [x] := (List.perm_ext_iff_of_nodup (rowOf_nodup _ _) (by simp)).2 (fun y => rowOf_mem key p hp [x] y)
  exact List.perm_singleton.1 h
theorem ofK_one (key : Int) (p : Nat) (hp : 0 < p) (x : Int) : ofK key p [x] = some x := by rw [ofK, row_one key p hp]; rfl
theorem ints_nil (w : World) (c : Nat) (hc : c ≤ 9223372036854775807) : Ints w (.slice none 0 c) [] := ⟨by simp, none, c, rfl, by simpa using hc, fun i x hi => by simp at hi⟩
theorem ints_new (w : World) (xs : List Int) (hl : xs.length ≤ 9223372036854775807) : Ints (w.alloc (.cells (xs.map (Value.int .i64)).toArray 3)) (.slice (some ⟨w.heap.size, 0, none⟩) xs.length xs.length) xs := by
  refine ⟨hl, _, _, rfl, by omega, fun i x hi => ⟨w.heap.size, 0, rfl, by simp, fun j u hu => ?_⟩⟩
  match j, hu with
  | 0, hu =>
    simp [encI] at hu
    subst hu
    have := cells_new w (xs.map (Value.int .i64)) 3 i (.int .i64 x) (by rw [List.getElem?_map, hi]; rfl)
    rw [add_cell] at this
    simpa using this
end Go.Proofs.Ytoncfogihiapiaa
