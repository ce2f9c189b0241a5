
/- The library's contracts at this program. -/
import Derived.Shelf.Lay
import Derived.Shelf.Sort.Plain
import Derived.Shelf.Slices.In.SortNone
import Derived.Shelf.Slices.CompactI
import Derived.Shelf.Slices.Turned
import Derived.Ground.NamesProg
import Derived.Ground.Names2Prog
import Derived.Lib.OwnBridge
import Derived.Test.YtoncfogihiapiaaRingP
namespace Go.Proofs
open Go.Shelf
shelf_lay Lays.n189 Nm 189 at Try as Try.l189
shelf_lay Lays.n107 Nm 107 at Try as Try.l107
shelf_lay Lays2.n20 Nm2 20 at Try as Try.l220
end Go.Proofs
namespace Go.Proofs.Ytoncfogihiapiaa
open Go.Shelf Go.RowKit Go.Sort
theorem flat_encI (zs : List Int) : zs.flatMap encI = zs.map (Value.int .i64) := by
  induction zs with
  | nil => rfl
  | cons z zs ih => simp [encI, ih]
theorem own_grow {w : World} {base : Nat} {e : TypeId} {size n : Nat} {v : Value} {xs : List Value} (h : w.ownsRow base e size v n xs) (os : Array Obj) : (grow w os).ownsRow base e size v n xs := by
  refine ⟨h.1, ?_⟩
  rcases h.2 with hn | ⟨g, cap, cur, rfl, hb, hgg, rest⟩
  · exact .inl hn
  · refine .inr ⟨g, cap, cur, rfl, hb, ?_, rest⟩
    have hl := (Array.getElem?_eq_some_iff.1 hgg).1
    show (w.heap ++ os)[g]? = _
    rw [Array.getElem?_append_left hl]; exact hgg
theorem below_grow' {B : Nat} {w0 w : World} (h : Below B w0 w) (hw : w0.heap.size ≤ w.heap.size) (os : Array Obj) (hB : B ≤ w.heap.size) : Below B w0 (grow w os) :=
  ⟨h.os, h.tape, h.output, Nat.le_trans h.size (by simp), fun k hk => by
    rw [← h.block k hk]
    show (w.heap ++ os)[k]? = _
    rw [Array.getElem?_append_left (by omega)]⟩
theorem own_ints {w : World} {base : Nat} {v : Value} {n : Nat} {zs : List Int} (h : w.ownsRow base 3 1 v n (zs.flatMap encI)) (hl : zs.length ≤ 9223372036854775807) : Ints w v zs := by
  have hn : zs.length = n := by simpa [flat_encI] using h.1
  subst hn
  exact Sl.of_own (enc := encI) (size := 1) (fun _ => rfl) h hl
/-- slices.Sort, of a row of the call's own -/
theorem sort_own {w : World} {base : Nat} {v : Value} {n : Nat} {zs : List Int} (h : w.ownsRow base 3 1 v n (zs.flatMap encI)) (hn : n < 4611686018427387904) (hb : base ≤ w.heap.size) :
    Calls Try.prog 33 #[v] w fun e w' => e = .returned (.tuple #[]) ∧ w'.ownsRow base 3 1 v n ((srtI zs).flatMap encI) ∧ Below base w w' := by
  rw [flat_encI] at h
  by_cases hv : v = .slice none 0 0
  · subst hv
    have hn0 : n = 0 := by
      rcases h.2 with ⟨_, h0⟩ | ⟨g, cap, cur, e, _⟩
      · exact h0
      · cases e
    subst hn0
    have hz : zs = [] := by have := h.1; simpa using this
    subst hz
    refine (Any.slices_Sort_int_none Try.l189 none 0 w).mono ?_
    rintro e w' ⟨rfl, rfl⟩
    exact ⟨rfl, by simpa [srtI] using h, Below.refl _ _⟩
  · obtain ⟨g, cap, rfl, hbg, hg, hnc, hcm, hzl, hH⟩ := Go.Lib.holds_of_ownsRow h hv
    subst hzl
    refine (Any.slices_Sort_int Try.l189 g 0 cap zs w hH hg hn).mono ?_
    rintro e w' ⟨rfl, q, os, rfl⟩
    have hs : (srtI zs).length = zs.length := (srtI_perm zs).length_eq
    have h2 := Go.Lib.ownsRow_putRow (q := q) (k := zs.length) (ys := srtI zs) h hs (Nat.le_refl _)
    have h3 := own_grow h2 os
    rw [List.take_of_length_le (by omega)] at h3
    have hsz : w.heap.size ≤ (putRow (Value.int .i64) (Sort.ahead w q) g 0 (srtI zs).toArray).heap.size := by simp [putRow, mapBlock, Sort.ahead]
    refine ⟨rfl, by rw [flat_encI]; exact h3, ?_⟩
    exact below_grow' (Go.Lib.below_putRow (Below.refl _ _) hbg) hsz os (Nat.le_trans hb hsz)
/-- slices.Compact, of a row of the call's own -/
theorem compact_own {w : World} {base : Nat} {v : Value} {n : Nat} {zs : List Int} (h : w.ownsRow base 3 1 v n (zs.flatMap encI)) (hn : n < 4611686018427387904) (hb : base ≤ w.heap.size) :
    Calls Try.prog 34 #[v] w fun e w' => ∃ v', e = .returned v' ∧ w'.ownsRow base 3 1 v' (Go.Lib.compact zs).length ((Go.Lib.compact zs).flatMap encI) ∧ Below base w w' := by
  rw [flat_encI] at h
  by_cases hv : v = .slice none 0 0
  · subst hv
    have hn0 : n = 0 := by
      rcases h.2 with ⟨_, h0⟩ | ⟨g, cap, cur, e, _⟩
      · exact h0
      · cases e
    subst hn0
    have hz : zs = [] := by have := h.1; simpa using this
    subst hz
    refine (Any.slices_Compact_int_empty Try.l220 none 0 w).mono ?_
    rintro e w' ⟨rfl, rfl⟩
    exact ⟨_, rfl, by simpa [Go.Lib.compact, Go.Lib.compactUpTo] using h, Below.refl _ _⟩
  · obtain ⟨g, cap, rfl, hbg, hg, hnc, hcm, hzl, hH⟩ := Go.Lib.holds_of_ownsRow h hv
    subst hzl
    refine (Any.slices_Compact_int Try.l220 g 0 cap zs w hH (by omega) hnc).mono ?_
    rintro e w' ⟨rfl, q, rfl⟩
    have hle := Go.Lib.compact_length_le zs
    have h2 := Go.Lib.ownsRow_putRow (q := q) (k := (Go.Lib.compact zs).length) (ys := Go.Lib.compact zs ++ List.replicate (zs.length - (Go.Lib.compact zs).length) 0) h (by simp; omega) hle
    rw [List.take_left'] at h2
    · exact ⟨_, rfl, by rw [flat_encI]; exact h2, Go.Lib.below_putRow (Below.refl _ _) hbg⟩
    · rfl
/-- slices.Contains -/
theorem contains_any {w : World} {a : Option Addr} {n c : Nat} {zs : List Int} (h : Ints w (.slice a n c) zs) (x : Int) :
    Calls Try.prog 50 #[.slice a n c, .int .i64 x] w fun e w' => e = .returned (.bool (decide (x ∈ zs))) ∧ w = w' := by
  obtain ⟨hn, hc, hc'⟩ := h.cap
  subst hn
  by_cases h0 : zs = []
  · subst h0
    exact (Any.slices_Contains_int_empty Try.l107 a c x w).mono (by rintro e w' ⟨rfl, rfl⟩; exact ⟨by simp, rfl⟩)
  · obtain ⟨b, off, rfl, hb⟩ := h.some (List.length_pos_iff.2 h0)
    refine (Any.slices_Contains_int Try.l107 b off zs.length c zs x w (Nat.le_refl _) (by omega) ?_).mono ?_
    · intro j hj
      obtain ⟨b', off', e, _, hcell⟩ := ints_at h j hj
      cases e
      rw [hcell]; simp [hj]
    · rintro e w' ⟨rfl, rfl⟩
      exact ⟨by simp, rfl⟩
end Go.Proofs.Ytoncfogihiapiaa
