
/- The ring's methods: Len, round, and what sort.Search asks. -/
import Derived.RangeFuncNested
import Derived.RangeFuncBound
import Derived.RangeFuncCalls
import Derived.RangeFuncLeaves
import Derived.RangeFuncBox
import Derived.Shelf.Abstract
import Derived.Shelf.RegionOpen
import Derived.OwnWalkIn
import Derived.TacticsInMore
import Derived.LoopNIn
import Derived.LoopIn
import Derived.Test.YtoncfogihiapiaaRingN2
namespace Go.Proofs.Ytoncfogihiapiaa
open Go.ChangeShapes Go.WideShapes Go.ChangeAt Go.RowKit Go.Sort Go.Shelf
theorem pts_at {w : World} {a : Option Addr} {n cap : Nat} {xs : List (Int × Int)} (h : Pts w (.slice a n cap) xs) (i : Nat) (hi : i < xs.length) :
    ∃ b off, a = some ⟨b, off, none⟩ ∧ b < w.heap.size ∧ w.cell? ⟨b, off + i * 2, none⟩ = some (.int .u64 xs[i].1) ∧ w.cell? ⟨b, off + i * 2 + 1, none⟩ = some (.int .i64 xs[i].2) := by
  obtain ⟨_, a', cap', hv, _, hc⟩ := h
  cases hv
  obtain ⟨b, off, ha, hb, hc⟩ := hc i xs[i] (List.getElem?_eq_getElem hi)
  exact ⟨b, off, ha, hb, by simpa using hc 0 _ rfl, by simpa using hc 1 _ rfl⟩
theorem cell_of2' {w : World} {B : Nat} {a b : Value} {t : TypeId} (h : w.heap[B]? = some (.cells #[a, b] t (0, 0))) : w.cell? ⟨B, 1, none⟩ = some b := by simp [World.cell?, h]
set_option maxHeartbeats 1000000 in
theorem geq_any {w : World} {b1 b2 B : Nat} {key : Int} {a : Option Addr} {cap : Nat} {P : List (Int × Int)} (i : Nat) (hi : i < P.length)
    (h1 : w.cell? ⟨b1, 0, none⟩ = some (.pointer (some ⟨B, 0, none⟩))) (h2 : w.cell? ⟨b2, 0, none⟩ = some (.int .u64 key)) (hB : w.cell? ⟨B, 0, none⟩ = some (.slice a P.length cap)) (hP : Pts w (.slice a P.length cap) P) :
    Calls Try.prog 63 #[.int .i64 i, .pointer (some ⟨b1, 0, none⟩), .pointer (some ⟨b2, 0, none⟩)] w fun e w' => e = .returned (.bool (!decide (P[i].1 < key))) ∧ ∃ q, w' = w.drewN q := by
  have hl := hP.1
  obtain ⟨b, off, rfl, hb, c0, _⟩ := pts_at hP i hi
  have HP := hide hP; clear hP
  have hi0 : (0 : Int) ≤ (i : Int) := Int.natCast_nonneg _
  have hi1 : (i : Int) < (P.length : Int) := by omega
  obtain ⟨x, hx⟩ : ∃ x, P[i].1 = x := ⟨_, rfl⟩
  rw [hx] at c0 ⊢
  clear hx
  go_enter Try.func63, Try.ntmps63
  go_wp2_with fail
  go_quiet (fail)
  go_wp2_with fail
  go_ret
  refine ⟨?_, _, rfl⟩
  refine ret_bool ?_
  by_cases h : x < key <;> simp [h] <;> omega
set_option maxHeartbeats 1000000 in
theorem round_mk (B : Nat) (key : Int) (w : World) (F : Fence) (m : Nat) (hF : F.fn 51) (hro : F.round = none) :
    CallsIn F m Try.prog 51 #[.pointer (some ⟨B, 0, none⟩), .int .u64 key] w fun e w' => e = .returned (.func (.func 61) #[] #[.pointer (some ⟨w.heap.size, 0, none⟩), .pointer (some ⟨w.heap.size + 1, 0, none⟩)]) ∧ w' = (w.alloc (.cells #[.pointer (some ⟨B, 0, none⟩)] 37)).alloc (.cells #[.int .u64 key] 29) := by
  refine callsIn_of_wp Try.func51 rfl hF ?_ hro
  simp only [Try.ntmps51, List.size_toArray, List.length_cons, List.length_nil, Nat.reduceAdd, Nat.reduceSub, Array.replicate_succ, Array.replicate_zero, List.push_toArray, List.append_toArray, List.nil_append, List.cons_append]
  gi_wp2
  go_ret
  exact ⟨rfl, rfl⟩
end Go.Proofs.Ytoncfogihiapiaa
