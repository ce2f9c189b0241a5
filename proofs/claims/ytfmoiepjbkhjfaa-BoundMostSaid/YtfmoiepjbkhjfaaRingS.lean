/- The library's contracts at this program. -/
import Derived.Shelf.Sort.Plain
import Derived.Shelf.Slices.In.SortNone
import Derived.Shelf.Slices.CompactI
import Derived.Shelf.Slices.Turned
import Derived.Ground.NamesProg
import Derived.Ground.Names2Prog
import Derived.Lib.OwnBridge
import Derived.Test.YtfmoiepjbkhjfaaRingP
namespace Go.Proofs
open Go.Shelf
def Try.l189_ren : Go.Shelf.Ren := ⟨fun | 189 => 35 | 125 => 52 | 257 => 51 | 128 => 72 | 129 => 73 | 294 => 63 | 295 => 64 | 296 => 65 | 297 => 66 | 298 => 67 | 299 => 68 | 216 => 69 | 300 => 70 | 301 => 71 | 328 => 82 | 329 => 83 | 330 => 84 | 331 => 85 | 332 => 86 | 215 => 56 | 343 => 90 | n => n, fun | 28 => 22 | 3 => 3 | 46 => 80 | 0 => 0 | 51 => 96 | 53 => 23 | 4 => 4 | 183 => 89 | 182 => 88 | 131 => 37 | 5 => 5 | 9 => 9 | 218 => 103 | 222 => 107 | 228 => 111 | 229 => 112 | n => n, fun | n => n⟩
theorem Try.l189 : Go.Proofs.Lays.n189 Try.prog Try.l189_ren := {
  mixed := by kernel_rfl
  f125 := Try.func52.trans (congrArg some (by kernel_rfl))
  f128 := Try.func72.trans (congrArg some (by kernel_rfl))
  f129 := Try.func73.trans (congrArg some (by kernel_rfl))
  f189 := Try.func35.trans (congrArg some (by kernel_rfl))
  f215 := Try.func56.trans (congrArg some (by kernel_rfl))
  f216 := Try.func69.trans (congrArg some (by kernel_rfl))
  f257 := Try.func51.trans (congrArg some (by kernel_rfl))
  f294 := Try.func63.trans (congrArg some (by kernel_rfl))
  f295 := Try.func64.trans (congrArg some (by kernel_rfl))
  f296 := Try.func65.trans (congrArg some (by kernel_rfl))
  f297 := Try.func66.trans (congrArg some (by kernel_rfl))
  f298 := Try.func67.trans (congrArg some (by kernel_rfl))
  f299 := Try.func68.trans (congrArg some (by kernel_rfl))
  f300 := Try.func70.trans (congrArg some (by kernel_rfl))
  f301 := Try.func71.trans (congrArg some (by kernel_rfl))
  f328 := Try.func82.trans (congrArg some (by kernel_rfl))
  f329 := Try.func83.trans (congrArg some (by kernel_rfl))
  f330 := Try.func84.trans (congrArg some (by kernel_rfl))
  f331 := Try.func85.trans (congrArg some (by kernel_rfl))
  f332 := Try.func86.trans (congrArg some (by kernel_rfl))
  f343 := Try.func90.trans (congrArg some (by kernel_rfl))
  t0 := Try.underlying0
  a0 := Try.isAgg0
  z0 := Try.sizeOf0
  v0 := Try.zeroValue0
  t3 := Try.underlying3
  a3 := Try.isAgg3
  z3 := Try.sizeOf3
  v3 := Try.zeroValue3
  t4 := Try.underlying4
  a4 := Try.isAgg4
  z4 := Try.sizeOf4
  v4 := Try.zeroValue4
  t5 := Try.underlying5
  a5 := Try.isAgg5
  z5 := Try.sizeOf5
  v5 := Try.zeroValue5
  t9 := Try.underlying9
  a9 := Try.isAgg9
  z9 := Try.sizeOf9
  v9 := Try.zeroValue9
  t28 := Try.underlying22
  a28 := Try.isAgg22
  z28 := Try.sizeOf22
  v28 := Try.zeroValue22
  t46 := Try.underlying80
  a46 := Try.isAgg80
  z46 := Try.sizeOf80
  v46 := Try.zeroValue80
  t51 := Try.underlying96
  a51 := Try.isAgg96
  z51 := Try.sizeOf96
  v51 := Try.zeroValue96
  t53 := Try.underlying23
  a53 := Try.isAgg23
  z53 := Try.sizeOf23
  v53 := Try.zeroValue23
  t131 := Try.underlying37
  a131 := Try.isAgg37
  z131 := Try.sizeOf37
  v131 := Try.zeroValue37
  t182 := Try.underlying88
  a182 := Try.isAgg88
  z182 := Try.sizeOf88
  v182 := Try.zeroValue88
  t183 := Try.underlying89
  a183 := Try.isAgg89
  z183 := Try.sizeOf89
  v183 := Try.zeroValue89
  t218 := Try.underlying103
  a218 := Try.isAgg103
  z218 := Try.sizeOf103
  v218 := Try.zeroValue103
  t222 := Try.underlying107
  a222 := Try.isAgg107
  z222 := Try.sizeOf107
  v222 := Try.zeroValue107
  t228 := Try.underlying111
  a228 := Try.isAgg111
  z228 := Try.sizeOf111
  v228 := Try.zeroValue111
  t229 := Try.underlying112
  a229 := Try.isAgg112
  z229 := Try.sizeOf112
  v229 := Try.zeroValue112 }
def Try.l107_ren : Go.Shelf.Ren := ⟨fun | 107 => 44 | 108 => 60 | n => n, fun | 28 => 22 | 3 => 3 | 4 => 4 | 0 => 0 | n => n, fun | n => n⟩
theorem Try.l107 : Go.Proofs.Lays.n107 Try.prog Try.l107_ren := {
  mixed := by kernel_rfl
  f107 := Try.func44.trans (congrArg some (by kernel_rfl))
  f108 := Try.func60.trans (congrArg some (by kernel_rfl))
  t0 := Try.underlying0
  a0 := Try.isAgg0
  z0 := Try.sizeOf0
  v0 := Try.zeroValue0
  t3 := Try.underlying3
  a3 := Try.isAgg3
  z3 := Try.sizeOf3
  v3 := Try.zeroValue3
  t4 := Try.underlying4
  a4 := Try.isAgg4
  z4 := Try.sizeOf4
  v4 := Try.zeroValue4
  t28 := Try.underlying22
  a28 := Try.isAgg22
  z28 := Try.sizeOf22
  v28 := Try.zeroValue22 }
def Try.l220_ren : Go.Shelf.Ren := ⟨fun | 20 => 36 | n => n, fun | 22 => 22 | 3 => 3 | 4 => 4 | 0 => 0 | n => n, fun | n => n⟩
theorem Try.l220 : Go.Proofs.Lays2.n20 Try.prog Try.l220_ren := {
  mixed := by kernel_rfl
  f20 := Try.func36.trans (congrArg some (by kernel_rfl))
  t0 := Try.underlying0
  a0 := Try.isAgg0
  z0 := Try.sizeOf0
  v0 := Try.zeroValue0
  t3 := Try.underlying3
  a3 := Try.isAgg3
  z3 := Try.sizeOf3
  v3 := Try.zeroValue3
  t4 := Try.underlying4
  a4 := Try.isAgg4
  z4 := Try.sizeOf4
  v4 := Try.zeroValue4
  t22 := Try.underlying22
  a22 := Try.isAgg22
  z22 := Try.sizeOf22
  v22 := Try.zeroValue22
  i3 := by kernel_rfl }
end Go.Proofs
namespace Go.Proofs.Ytfmoiepjbkhjfaa
open Go.Shelf Go.RowKit Go.Sort
theorem flat_encI (zs : List Int) : zs.flatMap encI = zs.map (Value.int .i64) := by
  induction zs with
  | nil => rfl
  | cons z zs ih => simp [encI, ih]
theorem own_grow {w : World} {base : Nat} {e : TypeId} {size n : Nat} {v : Value} {xs : List Value} (h : w.ownsRow base e size v n xs) (os : Array Obj) : (grow w os).ownsRow base e size v n xs := by
  refine ⟨h.1, ?_⟩
  rcases h.2 with hn | ⟨g, cap, cur, rfl, hb, hgg, rest⟩
  · exact .inl hn
  · refine .inr ⟨g, cap, cur, rfl, hb, ?_, rest⟩
    have hl := (Array.getElem?_eq_some_iff.1 hgg).1
    show (w.heap ++ os)[g]? = _
    rw [Array.getElem?_append_left hl]; exact hgg
theorem below_grow' {B : Nat} {w0 w : World} (h : Below B w0 w) (hw : w0.heap.size ≤ w.heap.size) (os : Array Obj) (hB : B ≤ w.heap.size) : Below B w0 (grow w os) :=
  ⟨h.os, h.tape, h.output, Nat.le_trans h.size (by simp), fun k hk => by
    rw [← h.block k hk]
    show (w.heap ++ os)[k]? = _
    rw [Array.getElem?_append_left (by omega)]⟩
theorem own_ints {w : World} {base : Nat} {v : Value} {n : Nat} {zs : List Int} (h : w.ownsRow base 3 1 v n (zs.flatMap encI)) (hl : zs.length ≤ 9223372036854775807) : Ints w v zs := by
  have hn : zs.length = n := by simpa [flat_encI] using h.1
  subst hn
  exact Sl.of_own (enc := encI) (size := 1) (fun _ => rfl) h hl
/-- slices.Sort, of a row of the call's own -/
theorem sort_own {w : World} {base : Nat} {v : Value} {n : Nat} {zs : List Int} (h : w.ownsRow base 3 1 v n (zs.flatMap encI)) (hn : n < 4611686018427387904) (hb : base ≤ w.heap.size) :
    Calls Try.prog 35 #[v] w fun e w' => e = .returned (.tuple #[]) ∧ w'.ownsRow base 3 1 v n ((srtI zs).flatMap encI) ∧ Below base w w' := by
  rw [flat_encI] at h
  by_cases hv : v = .slice none 0 0
  · subst hv
    have hn0 : n = 0 := by
      rcases h.2 with ⟨_, h0⟩ | ⟨g, cap, cur, e, _⟩
      · exact h0
      · cases e
    subst hn0
    have hz : zs = [] := by have := h.1; simpa using this
    subst hz
    refine (Any.slices_Sort_int_none Try.l189 none 0 w).mono ?_
    rintro e w' ⟨rfl, rfl⟩
    exact ⟨rfl, by simpa [srtI] using h, Below.refl _ _⟩
  · obtain ⟨g, cap, rfl, hbg, hg, hnc, hcm, hzl, hH⟩ := Go.Lib.holds_of_ownsRow h hv
    subst hzl
    refine (Any.slices_Sort_int Try.l189 g 0 cap zs w hH hg hn).mono ?_
    rintro e w' ⟨rfl, q, os, rfl⟩
    have hs : (srtI zs).length = zs.length := (srtI_perm zs).length_eq
    have h2 := Go.Lib.ownsRow_putRow (q := q) (k := zs.length) (ys := srtI zs) h hs (Nat.le_refl _)
    have h3 := own_grow h2 os
    rw [List.take_of_length_le (by omega)] at h3
    have hsz : w.heap.size ≤ (putRow (Value.int .i64) (Sort.ahead w q) g 0 (srtI zs).toArray).heap.size := by simp [putRow, mapBlock, Sort.ahead]
    refine ⟨rfl, by rw [flat_encI]; exact h3, ?_⟩
    exact below_grow' (Go.Lib.below_putRow (Below.refl _ _) hbg) hsz os (Nat.le_trans hb hsz)
/-- slices.Compact, of a row of the call's own -/
theorem compact_own {w : World} {base : Nat} {v : Value} {n : Nat} {zs : List Int} (h : w.ownsRow base 3 1 v n (zs.flatMap encI)) (hn : n < 4611686018427387904) (hb : base ≤ w.heap.size) :
    Calls Try.prog 36 #[v] w fun e w' => ∃ v', e = .returned v' ∧ w'.ownsRow base 3 1 v' (Go.Lib.compact zs).length ((Go.Lib.compact zs).flatMap encI) ∧ Below base w w' := by
  rw [flat_encI] at h
  by_cases hv : v = .slice none 0 0
  · subst hv
    have hn0 : n = 0 := by
      rcases h.2 with ⟨_, h0⟩ | ⟨g, cap, cur, e, _⟩
      · exact h0
      · cases e
    subst hn0
    have hz : zs = [] := by have := h.1; simpa using this
    subst hz
    refine (Any.slices_Compact_int_empty Try.l220 none 0 w).mono ?_
    rintro e w' ⟨rfl, rfl⟩
    exact ⟨_, rfl, by simpa [Go.Lib.compact, Go.Lib.compactUpTo] using h, Below.refl _ _⟩
  · obtain ⟨g, cap, rfl, hbg, hg, hnc, hcm, hzl, hH⟩ := Go.Lib.holds_of_ownsRow h hv
    subst hzl
    refine (Any.slices_Compact_int Try.l220 g 0 cap zs w hH (by omega) hnc).mono ?_
    rintro e w' ⟨rfl, q, rfl⟩
    have hle := Go.Lib.compact_length_le zs
    have h2 := Go.Lib.ownsRow_putRow (q := q) (k := (Go.Lib.compact zs).length) (ys := Go.Lib.compact zs ++ List.replicate (zs.length - (Go.Lib.compact zs).length) 0) h (by simp; omega) hle
    rw [List.take_left'] at h2
    · exact ⟨_, rfl, by rw [flat_encI]; exact h2, Go.Lib.below_putRow (Below.refl _ _) hbg⟩
    · rfl
/-- slices.Contains -/
theorem contains_any {w : World} {a : Option Addr} {n c : Nat} {zs : List Int} (h : Ints w (.slice a n c) zs) (x : Int) :
    Calls Try.prog 44 #[.slice a n c, .int .i64 x] w fun e w' => e = .returned (.bool (decide (x ∈ zs))) ∧ w = w' := by
  obtain ⟨hn, hc, hc'⟩ := h.cap
  subst hn
  by_cases h0 : zs = []
  · subst h0
    exact (Any.slices_Contains_int_empty Try.l107 a c x w).mono (by rintro e w' ⟨rfl, rfl⟩; exact ⟨by simp, rfl⟩)
  · obtain ⟨b, off, rfl, hb⟩ := h.some (List.length_pos_iff.2 h0)
    refine (Any.slices_Contains_int Try.l107 b off zs.length c zs x w (Nat.le_refl _) (by omega) ?_).mono ?_
    · intro j hj
      obtain ⟨b', off', e, _, hcell⟩ := ints_at h j hj
      cases e
      rw [hcell]; simp [hj]
    · rintro e w' ⟨rfl, rfl⟩
      exact ⟨by simp, rfl⟩
end Go.Proofs.Ytfmoiepjbkhjfaa
