/- slices.Sort at this program. -/
import Derived.Shelf.Sort.Plain
import Derived.Shelf.Slices.In.SortNone
import Derived.Shelf.Slices.Turned
import Derived.Ground.NamesProg
import Derived.Ground.Names2Prog
import Derived.Lib.OwnBridge
import Derived.Test.YtlaaapfpchnmeaaGreatDoorDfA
namespace Go.Proofs
open Go.Shelf
def Tryz.l189_ren : Go.Shelf.Ren := ⟨fun | 189 => 29 | 125 => 48 | 257 => 47 | 128 => 78 | 129 => 79 | 294 => 69 | 295 => 70 | 296 => 71 | 297 => 72 | 298 => 73 | 299 => 74 | 216 => 75 | 300 => 76 | 301 => 77 | 328 => 96 | 329 => 97 | 330 => 98 | 331 => 99 | 332 => 100 | 215 => 52 | 343 => 107 | n => n, fun | 28 => 22 | 3 => 3 | 46 => 87 | 0 => 0 | 51 => 115 | 53 => 117 | 4 => 4 | 183 => 108 | 182 => 107 | 131 => 32 | 5 => 5 | 9 => 9 | 218 => 133 | 222 => 137 | 228 => 144 | 229 => 145 | n => n, fun | n => n⟩
theorem Tryz.l189 : Go.Proofs.Lays.n189 Tryz.prog Tryz.l189_ren := {
  mixed := by kernel_rfl
  f125 := Tryz.func48.trans (congrArg some (by kernel_rfl))
  f128 := Tryz.func78.trans (congrArg some (by kernel_rfl))
  f129 := Tryz.func79.trans (congrArg some (by kernel_rfl))
  f189 := Tryz.func29.trans (congrArg some (by kernel_rfl))
  f215 := Tryz.func52.trans (congrArg some (by kernel_rfl))
  f216 := Tryz.func75.trans (congrArg some (by kernel_rfl))
  f257 := Tryz.func47.trans (congrArg some (by kernel_rfl))
  f294 := Tryz.func69.trans (congrArg some (by kernel_rfl))
  f295 := Tryz.func70.trans (congrArg some (by kernel_rfl))
  f296 := Tryz.func71.trans (congrArg some (by kernel_rfl))
  f297 := Tryz.func72.trans (congrArg some (by kernel_rfl))
  f298 := Tryz.func73.trans (congrArg some (by kernel_rfl))
  f299 := Tryz.func74.trans (congrArg some (by kernel_rfl))
  f300 := Tryz.func76.trans (congrArg some (by kernel_rfl))
  f301 := Tryz.func77.trans (congrArg some (by kernel_rfl))
  f328 := Tryz.func96.trans (congrArg some (by kernel_rfl))
  f329 := Tryz.func97.trans (congrArg some (by kernel_rfl))
  f330 := Tryz.func98.trans (congrArg some (by kernel_rfl))
  f331 := Tryz.func99.trans (congrArg some (by kernel_rfl))
  f332 := Tryz.func100.trans (congrArg some (by kernel_rfl))
  f343 := Tryz.func107.trans (congrArg some (by kernel_rfl))
  t0 := Tryz.underlying0
  a0 := Tryz.isAgg0
  z0 := Tryz.sizeOf0
  v0 := Tryz.zeroValue0
  t3 := Tryz.underlying3
  a3 := Tryz.isAgg3
  z3 := Tryz.sizeOf3
  v3 := Tryz.zeroValue3
  t4 := Tryz.underlying4
  a4 := Tryz.isAgg4
  z4 := Tryz.sizeOf4
  v4 := Tryz.zeroValue4
  t5 := Tryz.underlying5
  a5 := Tryz.isAgg5
  z5 := Tryz.sizeOf5
  v5 := Tryz.zeroValue5
  t9 := Tryz.underlying9
  a9 := Tryz.isAgg9
  z9 := Tryz.sizeOf9
  v9 := Tryz.zeroValue9
  t28 := Tryz.underlying22
  a28 := Tryz.isAgg22
  z28 := Tryz.sizeOf22
  v28 := Tryz.zeroValue22
  t46 := Tryz.underlying87
  a46 := Tryz.isAgg87
  z46 := Tryz.sizeOf87
  v46 := Tryz.zeroValue87
  t51 := Tryz.underlying115
  a51 := Tryz.isAgg115
  z51 := Tryz.sizeOf115
  v51 := Tryz.zeroValue115
  t53 := Tryz.underlying117
  a53 := Tryz.isAgg117
  z53 := Tryz.sizeOf117
  v53 := Tryz.zeroValue117
  t131 := Tryz.underlying32
  a131 := Tryz.isAgg32
  z131 := Tryz.sizeOf32
  v131 := Tryz.zeroValue32
  t182 := Tryz.underlying107
  a182 := Tryz.isAgg107
  z182 := Tryz.sizeOf107
  v182 := Tryz.zeroValue107
  t183 := Tryz.underlying108
  a183 := Tryz.isAgg108
  z183 := Tryz.sizeOf108
  v183 := Tryz.zeroValue108
  t218 := Tryz.underlying133
  a218 := Tryz.isAgg133
  z218 := Tryz.sizeOf133
  v218 := Tryz.zeroValue133
  t222 := Tryz.underlying137
  a222 := Tryz.isAgg137
  z222 := Tryz.sizeOf137
  v222 := Tryz.zeroValue137
  t228 := Tryz.underlying144
  a228 := Tryz.isAgg144
  z228 := Tryz.sizeOf144
  v228 := Tryz.zeroValue144
  t229 := Tryz.underlying145
  a229 := Tryz.isAgg145
  z229 := Tryz.sizeOf145
  v229 := Tryz.zeroValue145 }
end Go.Proofs
namespace Go.Proofs.YtlaaapfpchnmeaaGreatDoor
open Go.Shelf Go.RowKit Go.Sort
def srtI (l : List Int) : List Int := l.mergeSort fun x y => decide (x ≤ y)
theorem srtI_perm (l : List Int) : (srtI l).Perm l := List.mergeSort_perm l _
theorem srtI_sorted (l : List Int) : (srtI l).Pairwise (fun x y => x ≤ y) := by
  have h := List.pairwise_mergeSort (le := fun x y : Int => decide (x ≤ y)) (fun a b c h1 h2 => by simp at *; omega) (fun a b => by simp; omega) l
  exact h.imp (by simp)
theorem flat_encI (zs : List Int) : zs.flatMap encI = zs.map (Value.int .i64) := by
  induction zs with
  | nil => rfl
  | cons z zs ih => simp [encI, ih]
theorem own_grow {w : World} {base : Nat} {e : TypeId} {size n : Nat} {v : Value} {xs : List Value} (h : w.ownsRow base e size v n xs) (os : Array Obj) : (grow w os).ownsRow base e size v n xs := by
  refine ⟨h.1, ?_⟩
  rcases h.2 with hn | ⟨g, cap, cur, rfl, hb, hgg, rest⟩
  · exact .inl hn
  · refine .inr ⟨g, cap, cur, rfl, hb, ?_, rest⟩
    have hl := (Array.getElem?_eq_some_iff.1 hgg).1
    show (w.heap ++ os)[g]? = _
    rw [Array.getElem?_append_left hl]; exact hgg
theorem below_grow' {B : Nat} {w0 w : World} (h : Below B w0 w) (_hw : w0.heap.size ≤ w.heap.size) (os : Array Obj) (hB : B ≤ w.heap.size) : Below B w0 (grow w os) :=
  ⟨h.os, h.tape, h.output, Nat.le_trans h.size (by simp), fun k hk => by
    rw [← h.block k hk]
    show (w.heap ++ os)[k]? = _
    rw [Array.getElem?_append_left (by omega)]⟩
theorem own_ints {w : World} {base : Nat} {v : Value} {n : Nat} {zs : List Int} (h : w.ownsRow base 3 1 v n (zs.flatMap encI)) (hl : zs.length ≤ 9223372036854775807) : Ints w v zs := by
  have hn : zs.length = n := by simpa [flat_encI] using h.1
  subst hn
  exact Sl.of_own (enc := encI) (size := 1) (fun _ => rfl) h hl
/-- slices.Sort, of a row of the call's own -/
theorem sort_own {w : World} {base : Nat} {v : Value} {n : Nat} {zs : List Int} (h : w.ownsRow base 3 1 v n (zs.flatMap encI)) (hn : n < 4611686018427387904) (hb : base ≤ w.heap.size) :
    Calls Tryz.prog 29 #[v] w fun e w' => e = .returned (.tuple #[]) ∧ w'.ownsRow base 3 1 v n ((srtI zs).flatMap encI) ∧ Below base w w' := by
  rw [flat_encI] at h
  by_cases hv : v = .slice none 0 0
  · subst hv
    have hn0 : n = 0 := by
      rcases h.2 with ⟨_, h0⟩ | ⟨g, cap, cur, e, _⟩
      · exact h0
      · cases e
    subst hn0
    have hz : zs = [] := by have := h.1; simpa using this
    subst hz
    refine (Any.slices_Sort_int_none Tryz.l189 none 0 w).mono ?_
    rintro e w' ⟨rfl, rfl⟩
    exact ⟨rfl, by simpa [srtI] using h, Below.refl _ _⟩
  · obtain ⟨g, cap, rfl, hbg, hg, hnc, hcm, hzl, hH⟩ := Go.Lib.holds_of_ownsRow h hv
    subst hzl
    refine (Any.slices_Sort_int Tryz.l189 g 0 cap zs w hH hg hn).mono ?_
    rintro e w' ⟨rfl, q, os, rfl⟩
    have hs : (srtI zs).length = zs.length := (srtI_perm zs).length_eq
    have h2 := Go.Lib.ownsRow_putRow (q := q) (k := zs.length) (ys := srtI zs) h hs (Nat.le_refl _)
    have h3 := own_grow h2 os
    rw [List.take_of_length_le (by omega)] at h3
    have hsz : w.heap.size ≤ (putRow (Value.int .i64) (Sort.ahead w q) g 0 (srtI zs).toArray).heap.size := by simp [putRow, mapBlock, Sort.ahead]
    refine ⟨rfl, by rw [flat_encI]; exact h3, ?_⟩
    exact below_grow' (Go.Lib.below_putRow (Below.refl _ _) hbg) hsz os (Nat.le_trans hb hsz)
end Go.Proofs.YtlaaapfpchnmeaaGreatDoor
