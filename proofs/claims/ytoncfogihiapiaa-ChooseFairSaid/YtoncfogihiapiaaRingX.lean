
/- The ring's methods, over RingAt. -/
import Derived.Test.YtoncfogihiapiaaRingW
namespace Go.Proofs.Ytoncfogihiapiaa
open Go.ChangeShapes Go.WideShapes Go.ChangeAt Go.RowKit Go.Sort Go.Shelf
theorem points_sorted (p : Nat) (ids : List Int) : (pointsOf p ids).Pairwise (fun x y => leP x y = true) := srtP_sorted _
def ofK (key : Int) (p : Nat) (ids : List Int) : Option Int := (rowOf key (pointsOf p ids)).head?
theorem ofK_ids (key : Int) (p : Nat) (ids : List Int) : (idsK key (pointsOf p ids)).head? = ofK key p ids := by rw [ofK, rowOf, firsts_head]; rfl
theorem row_any {w : World} {r : Value} {p : Nat} {ids : List Int} (key : Int) (hp : 0 < p) (h : RingAt w r (ends ids).length (pointsOf p ids)) :
    Calls Try.prog 30 #[r, .int .u64 key] w fun e w' => ∃ v, e = .returned v ∧ w'.ownsRow w.heap.size 3 1 v (rowOf key (pointsOf p ids)).length ((rowOf key (pointsOf p ids)).flatMap encI) ∧ Ext w w' := by
  obtain ⟨h0, h00, B, a, cap, rfl, h2, h3⟩ := h
  refine callsIn_wide.1 (row_in key B _ a cap _ (ends ids) w h2 h3 (points_sorted p ids) h00 h0 rfl (fun x hx => ?_))
  rw [ends_mem, ← points_mem p hp ids x]
  simp only [idsK, List.mem_map, rotK_mem] at hx ⊢
  exact hx
theorem rowOf_le (key : Int) (p : Nat) (hp : 0 < p) (ids : List Int) : (rowOf key (pointsOf p ids)).length ≤ ids.length := by
  rw [rowOf_length key p hp, ← (srtI_perm ids).length_eq]; exact Go.Lib.compact_length_le _
/-- the same, read as a list -/
theorem row_ints {w : World} {r : Value} {p : Nat} {ids : List Int} (key : Int) (hp : 0 < p) (h : RingAt w r (ends ids).length (pointsOf p ids)) :
    Calls Try.prog 30 #[r, .int .u64 key] w fun e w' => ∃ v, e = .returned v ∧ Ints w' v (rowOf key (pointsOf p ids)) ∧ Ext w w' := by
  have h1 := h.1
  refine (row_any key hp h).mono ?_
  rintro e w' ⟨v, rfl, ho, he⟩
  exact ⟨v, rfl, own_ints ho (by rw [rowOf_length key p hp]; omega), he⟩
end Go.Proofs.Ytoncfogihiapiaa
