/- Merged texts (RingA, Cmp, Clos, RingP, RingS, RingF). -/
import Derived.Test.YtkhebanpplokdaaGreatDoorZs
import Derived.StillTailTactics
import Derived.Sort.Grow
import Derived.Lib.SlicesCompact
import Derived.Shelf.SlSortCmp.Insertion
import Derived.Shelf.Sort.Plain
import Derived.Shelf.Slices.In.SortNone
import Derived.Shelf.Slices.CompactI
import Derived.Shelf.Slices.Turned
import Derived.Ground.NamesProg
import Derived.Ground.Names2Prog
import Derived.Lib.OwnBridge
import Derived.Shelf.SlSortCmp.NoneTotal
import Derived.Ground.SlsfProg
namespace Go.Proofs.YtkhebanpplokdaaGreatDoor.Rg
open Go.ChangeShapes Go.WideShapes Go.ChangeAt Go.RowKit
theorem Tryz.infoI : (Tryz.prog.info? 3).map (fun i => (i.zero, i.size, i.bytes)) = some (some (.int .i64 0), 1, 8) := by kernel_rfl
theorem Tryz.infoQ : (Tryz.prog.info? 165).map (fun i => (i.zero, i.size, i.bytes)) = some (some (.agg #[.int .u64 0, .int .i64 0]), 2, 16) := by kernel_rfl
theorem info_parts' {P : Program} {t : TypeId} {z : Value} {s b : Nat} (h : (P.info? t).map (fun i => (i.zero, i.size, i.bytes)) = some (some z, s, b)) : ∃ i, P.info? t = some i ∧ i.zero = some z ∧ i.size = s ∧ i.bytes = b := by
 cases hi : P.info? t with
 | none => simp [hi] at h
 | some i =>
  simp [hi] at h
  exact ⟨i, rfl, h.1, h.2.1, h.2.2⟩
def x64 (a b : Int) : Int := bits BinOp.xor IntKind.u64 a b
def w64 (a : Int) : Int := IntKind.u64.wrap a
def scr1 (z : Int) : Int := w64 (x64 z (z / 1073741824) * 13787848793156543929)
def scr2 (z : Int) : Int := w64 (x64 z (z / 134217728) * 10723151780598845931)
def scr3 (z : Int) : Int := x64 z (z / 2147483648)
def scr (z : Int) : Int := scr3 (scr2 (scr1 z))
theorem scr_any (z : Int) (w : World) (_hz : U64 z) :
  Calls Tryz.prog 120 #[.int .u64 z] w fun e w' => e = .returned (.int .u64 (scr z)) ∧ w = w' := by
 unfold U64 at _hz
 go_enter Tryz.func120, Tryz.ntmps120
 go_wp2
 go_ret
 exact ⟨rfl, rfl⟩
theorem wrap_u64_bd (x : Int) : 0 ≤ IntKind.u64.wrap x ∧ IntKind.u64.wrap x ≤ 18446744073709551615 := by
 have e : IntKind.u64.wrap x = x % 18446744073709551616 := by
  simp [IntKind.wrap, IntKind.signed, IntKind.bits]
 rw [e]
 omega
theorem w64_bd (x : Int) : U64 (w64 x) := wrap_u64_bd x
theorem x64_bd (a b : Int) : U64 (x64 a b) := by
 unfold x64 bits
 exact wrap_u64_bd _
theorem scr_bd (z : Int) : U64 (scr z) := x64_bd _ _
def mix (a b : Int) : Int := scr (w64 (11400714819323198485 + x64 (scr (w64 (a + 11400714819323198485))) b))
theorem mix_bd (a b : Int) : U64 (mix a b) := scr_bd _
theorem mix_any (a b : Int) (w : World) (_ha : U64 a) (_hb : U64 b) :
  Calls Tryz.prog 83 #[.int .u64 a, .int .u64 b] w fun e w' => e = .returned (.int .u64 (mix a b)) ∧ w = w' := by
 unfold U64 at _ha _hb
 go_enter Tryz.func83, Tryz.ntmps83
 go_wp2_with fail
 refine (scr_any _ _ (w64_bd _)).mono ?_
 rintro e w1 ⟨rfl, rfl⟩
 go_wp2_with fail
 refine (scr_any _ _ (w64_bd _)).mono ?_
 rintro e w1 ⟨rfl, rfl⟩
 go_wp2_with fail
 go_ret
 exact ⟨rfl, rfl⟩
end Go.Proofs.YtkhebanpplokdaaGreatDoor.Rg
namespace Go.Proofs.YtkhebanpplokdaaGreatDoor.Rg
open Go.ChangeShapes Go.WideShapes Go.ChangeAt Go.RowKit
def cmpI (x y : Int) : Int := if x < y then -1 else if y < x then 1 else 0
theorem cmpU_any (x y : Int) (w : World) : Calls Tryz.prog 87 #[.int .u64 x, .int .u64 y] w fun e w' => e = .returned (.int .i64 (cmpI x y)) ∧ w = w' := by
 by_cases h1 : x < y
 ·have hf : cmpI x y = -1 := by rw [cmpI, if_pos h1]
  have HF := hide hf; clear hf
  go_enter Tryz.func87, Tryz.ntmps87
  go_wp2
  go_ret
  exact ⟨ret_int HF.out.symm, rfl⟩
 ·by_cases h2 : y < x
  ·have hf : cmpI x y = 1 := by rw [cmpI, if_neg h1, if_pos h2]
   have HF := hide hf; clear hf
   go_enter Tryz.func87, Tryz.ntmps87
   go_wp2
   go_ret
   exact ⟨ret_int HF.out.symm, rfl⟩
  ·have hf : cmpI x y = 0 := by rw [cmpI, if_neg h1, if_neg h2]
   have HF := hide hf; clear hf
   go_enter Tryz.func87, Tryz.ntmps87
   go_wp2
   go_ret
   exact ⟨ret_int HF.out.symm, rfl⟩
theorem cmpI_any (x y : Int) (w : World) : Calls Tryz.prog 88 #[.int .i64 x, .int .i64 y] w fun e w' => e = .returned (.int .i64 (cmpI x y)) ∧ w = w' := by
 by_cases h1 : x < y
 ·have hf : cmpI x y = -1 := by rw [cmpI, if_pos h1]
  have HF := hide hf; clear hf
  go_enter Tryz.func88, Tryz.ntmps88
  go_wp2
  go_ret
  exact ⟨ret_int HF.out.symm, rfl⟩
 ·by_cases h2 : y < x
  ·have hf : cmpI x y = 1 := by rw [cmpI, if_neg h1, if_pos h2]
   have HF := hide hf; clear hf
   go_enter Tryz.func88, Tryz.ntmps88
   go_wp2
   go_ret
   exact ⟨ret_int HF.out.symm, rfl⟩
  ·have hf : cmpI x y = 0 := by rw [cmpI, if_neg h1, if_neg h2]
   have HF := hide hf; clear hf
   go_enter Tryz.func88, Tryz.ntmps88
   go_wp2
   go_ret
   exact ⟨ret_int HF.out.symm, rfl⟩
def orI (a b : Int) : Int := if a = 0 then b else a
set_option maxHeartbeats 1000000 in
theorem or2_any (a b : Int) (B cap : Nat) (w : World) (h0 : w.cell? ⟨B, 0, none⟩ = some (.int .i64 a)) (h1 : w.cell? ⟨B, 1, none⟩ = some (.int .i64 b)) :
  Calls Tryz.prog 86 #[.slice (some ⟨B, 0, none⟩) 2 cap] w fun e w' => e = .returned (.int .i64 (orI a b)) ∧ w = w' := by
 go_enter Tryz.func86, Tryz.ntmps86
 go_wp2
 go_loop [8] (fun i => ∃ k : Nat, k ≤ 2 ∧ i = .int .i64 k ∧ (1 ≤ k → a = 0) ∧ (2 ≤ k → b = 0)) (fun i => 2 - (intOf i).toNat)
 case atStart => exact ⟨0, by omega, rfl, fun h => by omega, fun h => by omega⟩
 case round =>
  obtain ⟨k, hk, rfl, ha, hb⟩ := hrel
  have HA := hide ha; clear ha
  have HB := hide hb; clear hb
  by_cases hk0 : k = 0
  ·subst hk0
   by_cases h : a = 0
   ·subst h
    go_wp2
    go_round
    case rel => exact ⟨1, by omega, rfl, by simp, by simp⟩
    case measure => simp [intOf]
   ·have hd : (a == 0) = false := by simp [h]
    have hf : orI a b = a := by rw [orI, if_neg h]
    have HF := hide hf; clear hf
    have HH := hide h; clear h
    go_wp2
    go_ret
    exact ⟨ret_int HF.out.symm, rfl⟩
  ·by_cases hk1 : k = 1
   ·subst hk1
    have ha := HA.out (by omega)
    subst ha
    by_cases h : b = 0
    ·subst h
     go_wp2
     go_round
     case rel => exact ⟨2, by omega, rfl, by simp, by simp⟩
     case measure => simp [intOf]
    ·have hd : (b == 0) = false := by simp [h]
     have hf : orI 0 b = b := by rw [orI, if_pos rfl]
     have HF := hide hf; clear hf
     have HH := hide h; clear h
     go_wp2
     go_ret
     exact ⟨ret_int HF.out.symm, rfl⟩
   ·obtain rfl : k = 2 := by omega
    have ha := HA.out (by omega)
    have hb := HB.out (by omega)
    subst ha hb
    go_wp2
    go_ret
    exact ⟨rfl, rfl⟩
end Go.Proofs.YtkhebanpplokdaaGreatDoor.Rg
namespace Go.Proofs.YtkhebanpplokdaaGreatDoor.Rg
open Go.ChangeShapes Go.WideShapes Go.ChangeAt Go.RowKit
/-- a point's two cells -/
def encQ (p : Int × Int) : List Value := [.int .u64 p.1, .int .i64 p.2]
abbrev Pts := Sl encQ 2
def cfP (x y : Int × Int) : Int := orI (cmpI x.1 y.1) (cmpI x.2 y.2)
set_option maxRecDepth 100000 in
set_option maxHeartbeats 1000000 in
theorem clos_any (x y : Int × Int) (W : World) : Calls Tryz.prog 85 #[.agg #[.int .u64 x.1, .int .i64 x.2], .agg #[.int .u64 y.1, .int .i64 y.2]] W fun e w' => e = .returned (.int .i64 (cfP x y)) ∧ ∃ q os', w' = Go.Sort.grow (W.drewN q) os' := by
 have hf : orI (cmpI x.1 y.1) (cmpI x.2 y.2) = cfP x y := rfl
 have HF := hide hf; clear hf
 obtain ⟨x1, x2⟩ := x
 obtain ⟨y1, y2⟩ := y
 have c1 := cmpU_any x1 y1
 have c2 := cmpI_any x2 y2
 have hor : ∀ W' : World, Calls Tryz.prog 86 #[.slice (some ⟨W'.heap.size, 0, none⟩) 2 2] (W'.alloc (.cells #[.int .i64 (cmpI x1 y1), .int .i64 (cmpI x2 y2)] 3)) fun e w' => e = .returned (.int .i64 (cfP (x1, x2) (y1, y2))) ∧ W'.alloc (.cells #[.int .i64 (cmpI x1 y1), .int .i64 (cmpI x2 y2)] 3) = w' := fun W' => or2_any _ _ _ _ _ (by rw [← add_cell]; exact cells_new W' [.int .i64 (cmpI x1 y1), .int .i64 (cmpI x2 y2)] 3 0 _ rfl) (by rw [← add_cell]; exact cells_new W' [.int .i64 (cmpI x1 y1), .int .i64 (cmpI x2 y2)] 3 1 _ rfl)
 have HOR := hide hor; clear hor
 have C1 := hide c1; clear c1
 have C2 := hide c2; clear c2
 clear HF
 generalize cfP (x1, x2) (y1, y2) = r at HOR ⊢
 generalize cmpI x1 y1 = r1 at C1 HOR
 generalize cmpI x2 y2 = r2 at C2 HOR
 go_enter Tryz.func85, Tryz.ntmps85
 go_wp2_with fail
 obtain ⟨w2, hw2⟩ : ∃ w2, ((W.alloc (.cells #[.int .u64 x1, .int .i64 x2] 165)).alloc (.cells #[.int .u64 y1, .int .i64 y2] 165)) = w2 := ⟨_, rfl⟩
 have d1 : w2.cell? ⟨W.heap.size, 0, none⟩ = some (.int .u64 x1) := by subst hw2; go_simp
 have d2 : w2.cell? ⟨W.heap.size, 1, none⟩ = some (.int .i64 x2) := by subst hw2; go_simp
 have d3 : w2.cell? ⟨W.heap.size + 1, 0, none⟩ = some (.int .u64 y1) := by subst hw2; go_simp
 have d4 : w2.cell? ⟨W.heap.size + 1, 1, none⟩ = some (.int .i64 y2) := by subst hw2; go_simp
 have hg : Go.Sort.grow W (#[.cells #[.int .u64 x1, .int .i64 x2] 165, .cells #[.int .u64 y1, .int .i64 y2] 165]) = w2 := by
  rw [← hw2, Go.Sort.alloc_eq_grow, Go.Sort.alloc_eq_grow, Go.Sort.grow_grow]; rfl
 rw [hw2]
 clear hw2
 refine wp_region_still_tail 10 (by kernel_rfl) (by kernel_rfl) ?_
 simp only [List.take_succ_cons, List.take_zero, List.drop_succ_cons, List.drop_zero]
 repeat still_step
 still_call ((C1.out _).mono fun _ _ h => ⟨h.1, h.2.symm⟩)
 repeat still_step
 still_call ((C2.out _).mono fun _ _ h => ⟨h.1, h.2.symm⟩)
 refine wpStill_nil ?_
 change wpList _ _ _ _ _ w2.drew
 go_wp2_with (go_at_call 86; refine (HOR.out w2.drew).mono ?_; rintro e w6 ⟨rfl, rfl⟩)
 go_ret
 refine ⟨rfl, 1, (#[.cells #[.int .u64 x1, .int .i64 x2] 165, .cells #[.int .u64 y1, .int .i64 y2] 165] ++ #[.cells #[.int .i64 r1, .int .i64 r2] 3]), ?_⟩
 rw [← hg, Go.Sort.alloc_eq_grow, Go.Sort.grow_grow]
 rfl
end Go.Proofs.YtkhebanpplokdaaGreatDoor.Rg
namespace Go.Proofs.YtkhebanpplokdaaGreatDoor.Rg
open Go.RowKit Go.Lib

/-! the order of points -/
def ltP (x y : Int × Int) : Bool := decide (x.1 < y.1 ∨ x.1 = y.1 ∧ x.2 < y.2)
theorem ltOf_cfP (x y : Int × Int) : ltOf cfP x y = ltP x y := by
 unfold ltOf cfP orI cmpI ltP
 by_cases h1 : x.1 < y.1
 ·simp [h1]
 ·by_cases h2 : y.1 < x.1
  ·have : x.1 ≠ y.1 := by omega
   simp [h1, h2, this]
  ·have : x.1 = y.1 := by omega
   by_cases h3 : x.2 < y.2
   ·simp [this, h3]
   ·by_cases h4 : y.2 < x.2 <;> simp [this, h3, h4]
def leP (x y : Int × Int) : Bool := !ltP y x
def srtP (l : List (Int × Int)) : List (Int × Int) := l.mergeSort leP
theorem srtP_perm (l : List (Int × Int)) : (srtP l).Perm l := List.mergeSort_perm l leP
/-! the ends -/
def srtI (l : List Int) : List Int := l.mergeSort fun x y => decide (x ≤ y)
theorem srtI_perm (l : List Int) : (srtI l).Perm l := List.mergeSort_perm l _
theorem srtI_sorted (l : List Int) : (srtI l).Pairwise (fun x y => x ≤ y) := by
 have h := List.pairwise_mergeSort (le := fun x y : Int => decide (x ≤ y)) (fun a b c h1 h2 => by simp at *; omega) (fun a b => by simp; omega) l
 exact h.imp (by simp)
def ends (ids : List Int) : List Int := compact (srtI ids)
theorem compact_inv (zs : List Int) (hz : zs.Pairwise (fun x y => x ≤ y)) (m : Nat) (hm : m ≤ zs.length) :
  (compactUpTo zs.toArray m).Pairwise (fun x y => x < y) ∧ (∀ x ∈ compactUpTo zs.toArray m, ∃ j, j < m ∧ x = zs.toArray[j]!) ∧ (∀ j, j < m → zs.toArray[j]! ∈ compactUpTo zs.toArray m) := by
 have hle : ∀ i j, i ≤ j → j < zs.length → zs.toArray[i]! ≤ zs.toArray[j]! := by
  intro i j hij hj
  rcases Nat.lt_or_eq_of_le hij with h | h
  ·have := List.pairwise_iff_getElem.1 hz i j (by omega) hj h
   simpa [hj, (by omega : i < zs.length)] using this
  ·subst h; omega
 induction m with
 | zero => exact ⟨by simp [compactUpTo], fun x hx => by simp [compactUpTo] at hx, fun j hj => by omega⟩
 | succ m ih =>
  obtain ⟨h1, h2, h3⟩ := ih (by omega)
  rw [compactUpTo_succ]
  by_cases hk : keeps zs.toArray m = true
  ·rw [if_pos hk]
   refine ⟨List.pairwise_append.2 ⟨h1, by simp, ?_⟩, ?_, ?_⟩
   ·intro x hx y hy
    rw [List.mem_singleton.1 hy]
    obtain ⟨j, hj, rfl⟩ := h2 x hx
    have hm0 : m ≠ 0 := by omega
    have hne : zs.toArray[m]! ≠ zs.toArray[m-1]! := by
     unfold keeps at hk
     simp only [hm0, false_or, decide_eq_true_eq] at hk
     exact hk
    have a1 := hle j (m-1) (by omega) (by omega)
    have a2 := hle (m-1) m (by omega) (by omega)
    omega
   ·intro x hx
    rcases List.mem_append.1 hx with h | h
    ·obtain ⟨j, hj, e⟩ := h2 x h; exact ⟨j, by omega, e⟩
    ·exact ⟨m, by omega, List.mem_singleton.1 h⟩
   ·intro j hj
    by_cases hjm : j = m
    ·subst hjm; simp
    ·exact List.mem_append_left _ (h3 j (by omega))
  ·rw [if_neg hk, List.append_nil]
   refine ⟨h1, fun x hx => ?_, fun j hj => ?_⟩
   ·obtain ⟨j, hj, e⟩ := h2 x hx; exact ⟨j, by omega, e⟩
   ·by_cases hjm : j = m
    ·subst hjm
     have hj0 : j ≠ 0 := fun e => hk (by subst e; simp [keeps])
     have he : zs.toArray[j]! = zs.toArray[j-1]! := by
      unfold keeps at hk
      simp only [hj0, false_or, decide_eq_true_eq] at hk
      exact Classical.not_not.1 hk
     rw [he]
     exact h3 (j-1) (by omega)
    ·exact h3 j (by omega)
theorem ends_sorted (ids : List Int) : (ends ids).Pairwise (fun x y => x < y) := (compact_inv (srtI ids) (srtI_sorted ids) _ (Nat.le_refl _)).1
theorem ends_nodup (ids : List Int) : (ends ids).Nodup := (ends_sorted ids).imp (fun a => by omega)
/-! the points -/
def ptsOf (p : Nat) (id : Int) : List (Int × Int) := (List.range p).map fun k : Nat => (mix (mix 0 (w64 id)) (k : Int), id)
def raw (p : Nat) (E : List Int) : List (Int × Int) := E.flatMap (ptsOf p)
def pointsOf (p : Nat) (ids : List Int) : List (Int × Int) := srtP (raw p (ends ids))
/-! once round -/
/-! those that come first -/
def addF (acc : List Int) (x : Int) : List Int := if x ∈ acc then acc else acc ++ [x]
def firsts (l : List Int) : List Int := l.foldl addF []
/-! the row behind a key -/
end Go.Proofs.YtkhebanpplokdaaGreatDoor.Rg
namespace Go.Proofs
open Go.Shelf
def Tryz.l189_ren : Go.Shelf.Ren := ⟨fun | 189 => 81 | 125 => 119 | 257 => 118 | 128 => 154 | 129 => 155 | 294 => 145 | 295 => 146 | 296 => 147 | 297 => 148 | 298 => 149 | 299 => 150 | 216 => 151 | 300 => 152 | 301 => 153 | 328 => 179 | 329 => 180 | 330 => 181 | 331 => 182 | 332 => 183 | 215 => 123 | 343 => 195 | n => n, fun | 28 => 22 | 3 => 3 | 46 => 196 | 0 => 0 | 51 => 230 | 53 => 162 | 4 => 4 | 183 => 222 | 182 => 221 | 131 => 227 | 5 => 5 | 9 => 9 | 218 => 249 | 222 => 253 | 228 => 263 | 229 => 264 | n => n, fun | n => n⟩
theorem Tryz.l189 : Go.Proofs.Lays.n189 Tryz.prog Tryz.l189_ren := {
  mixed := by kernel_rfl
  f125 := Tryz.func119.trans (congrArg some (by kernel_rfl))
  f128 := Tryz.func154.trans (congrArg some (by kernel_rfl))
  f129 := Tryz.func155.trans (congrArg some (by kernel_rfl))
  f189 := Tryz.func81.trans (congrArg some (by kernel_rfl))
  f215 := Tryz.func123.trans (congrArg some (by kernel_rfl))
  f216 := Tryz.func151.trans (congrArg some (by kernel_rfl))
  f257 := Tryz.func118.trans (congrArg some (by kernel_rfl))
  f294 := Tryz.func145.trans (congrArg some (by kernel_rfl))
  f295 := Tryz.func146.trans (congrArg some (by kernel_rfl))
  f296 := Tryz.func147.trans (congrArg some (by kernel_rfl))
  f297 := Tryz.func148.trans (congrArg some (by kernel_rfl))
  f298 := Tryz.func149.trans (congrArg some (by kernel_rfl))
  f299 := Tryz.func150.trans (congrArg some (by kernel_rfl))
  f300 := Tryz.func152.trans (congrArg some (by kernel_rfl))
  f301 := Tryz.func153.trans (congrArg some (by kernel_rfl))
  f328 := Tryz.func179.trans (congrArg some (by kernel_rfl))
  f329 := Tryz.func180.trans (congrArg some (by kernel_rfl))
  f330 := Tryz.func181.trans (congrArg some (by kernel_rfl))
  f331 := Tryz.func182.trans (congrArg some (by kernel_rfl))
  f332 := Tryz.func183.trans (congrArg some (by kernel_rfl))
  f343 := Tryz.func195.trans (congrArg some (by kernel_rfl))
  t0 := Tryz.underlying0
  a0 := Tryz.isAgg0
  z0 := Tryz.sizeOf0
  v0 := Tryz.zeroValue0
  t3 := Tryz.underlying3
  a3 := Tryz.isAgg3
  z3 := Tryz.sizeOf3
  v3 := Tryz.zeroValue3
  t4 := Tryz.underlying4
  a4 := Tryz.isAgg4
  z4 := Tryz.sizeOf4
  v4 := Tryz.zeroValue4
  t5 := Tryz.underlying5
  a5 := Tryz.isAgg5
  z5 := Tryz.sizeOf5
  v5 := Tryz.zeroValue5
  t9 := Tryz.underlying9
  a9 := Tryz.isAgg9
  z9 := Tryz.sizeOf9
  v9 := Tryz.zeroValue9
  t28 := Tryz.underlying22
  a28 := Tryz.isAgg22
  z28 := Tryz.sizeOf22
  v28 := Tryz.zeroValue22
  t46 := Tryz.underlying196
  a46 := Tryz.isAgg196
  z46 := Tryz.sizeOf196
  v46 := Tryz.zeroValue196
  t51 := Tryz.underlying230
  a51 := Tryz.isAgg230
  z51 := Tryz.sizeOf230
  v51 := Tryz.zeroValue230
  t53 := Tryz.underlying162
  a53 := Tryz.isAgg162
  z53 := Tryz.sizeOf162
  v53 := Tryz.zeroValue162
  t131 := Tryz.underlying227
  a131 := Tryz.isAgg227
  z131 := Tryz.sizeOf227
  v131 := Tryz.zeroValue227
  t182 := Tryz.underlying221
  a182 := Tryz.isAgg221
  z182 := Tryz.sizeOf221
  v182 := Tryz.zeroValue221
  t183 := Tryz.underlying222
  a183 := Tryz.isAgg222
  z183 := Tryz.sizeOf222
  v183 := Tryz.zeroValue222
  t218 := Tryz.underlying249
  a218 := Tryz.isAgg249
  z218 := Tryz.sizeOf249
  v218 := Tryz.zeroValue249
  t222 := Tryz.underlying253
  a222 := Tryz.isAgg253
  z222 := Tryz.sizeOf253
  v222 := Tryz.zeroValue253
  t228 := Tryz.underlying263
  a228 := Tryz.isAgg263
  z228 := Tryz.sizeOf263
  v228 := Tryz.zeroValue263
  t229 := Tryz.underlying264
  a229 := Tryz.isAgg264
  z229 := Tryz.sizeOf264
  v229 := Tryz.zeroValue264 }
def Tryz.l220_ren : Go.Shelf.Ren := ⟨fun | 20 => 82 | n => n, fun | 22 => 22 | 3 => 3 | 4 => 4 | 0 => 0 | n => n, fun | n => n⟩
theorem Tryz.l220 : Go.Proofs.Lays2.n20 Tryz.prog Tryz.l220_ren := {
  mixed := by kernel_rfl
  f20 := Tryz.func82.trans (congrArg some (by kernel_rfl))
  t0 := Tryz.underlying0
  a0 := Tryz.isAgg0
  z0 := Tryz.sizeOf0
  v0 := Tryz.zeroValue0
  t3 := Tryz.underlying3
  a3 := Tryz.isAgg3
  z3 := Tryz.sizeOf3
  v3 := Tryz.zeroValue3
  t4 := Tryz.underlying4
  a4 := Tryz.isAgg4
  z4 := Tryz.sizeOf4
  v4 := Tryz.zeroValue4
  t22 := Tryz.underlying22
  a22 := Tryz.isAgg22
  z22 := Tryz.sizeOf22
  v22 := Tryz.zeroValue22
  i3 := by kernel_rfl }
end Go.Proofs
namespace Go.Proofs.YtkhebanpplokdaaGreatDoor.Rg
open Go.Shelf Go.RowKit Go.Sort
theorem flat_encI (zs : List Int) : zs.flatMap encI = zs.map (Value.int .i64) := by
 induction zs with
 | nil => rfl
 | cons z zs ih => simp [encI, ih]
theorem own_grow {w : World} {base : Nat} {e : TypeId} {size n : Nat} {v : Value} {xs : List Value} (h : w.ownsRow base e size v n xs) (os : Array Obj) : (grow w os).ownsRow base e size v n xs := by
 refine ⟨h.1, ?_⟩
 rcases h.2 with hn | ⟨g, cap, cur, rfl, hb, hgg, rest⟩
 ·exact .inl hn
 ·refine .inr ⟨g, cap, cur, rfl, hb, ?_, rest⟩
  have hl := (Array.getElem?_eq_some_iff.1 hgg).1
  show (w.heap ++ os)[g]? = _
  rw [Array.getElem?_append_left hl]; exact hgg
theorem below_grow' {B : Nat} {w0 w : World} (h : Below B w0 w) (_hw : w0.heap.size ≤ w.heap.size) (os : Array Obj) (hB : B ≤ w.heap.size) : Below B w0 (grow w os) :=
 ⟨h.os, h.tape, h.output, Nat.le_trans h.size (by simp), fun k hk => by
  rw [← h.block k hk]
  show (w.heap ++ os)[k]? = _
  rw [Array.getElem?_append_left (by omega)]⟩
theorem own_ints {w : World} {base : Nat} {v : Value} {n : Nat} {zs : List Int} (h : w.ownsRow base 3 1 v n (zs.flatMap encI)) (hl : zs.length ≤ 9223372036854775807) : Ints w v zs := by
 have hn : zs.length = n := by simpa [flat_encI] using h.1
 subst hn
 exact Sl.of_own (enc := encI) (size := 1) (fun _ => rfl) h hl
/-- slices.Sort, of a row of the call's own -/
theorem sort_own {w : World} {base : Nat} {v : Value} {n : Nat} {zs : List Int} (h : w.ownsRow base 3 1 v n (zs.flatMap encI)) (hn : n < 4611686018427387904) (hb : base ≤ w.heap.size) :
  Calls Tryz.prog 81 #[v] w fun e w' => e = .returned (.tuple #[]) ∧ w'.ownsRow base 3 1 v n ((srtI zs).flatMap encI) ∧ Below base w w' := by
 rw [flat_encI] at h
 by_cases hv : v = .slice none 0 0
 ·subst hv
  have hn0 : n = 0 := by
   rcases h.2 with ⟨_, h0⟩ | ⟨g, cap, cur, e, _⟩
   ·exact h0
   ·cases e
  subst hn0
  have hz : zs = [] := by have := h.1; simpa using this
  subst hz
  refine (Any.slices_Sort_int_none Tryz.l189 none 0 w).mono ?_
  rintro e w' ⟨rfl, rfl⟩
  exact ⟨rfl, by simpa [srtI] using h, Below.refl _ _⟩
 ·obtain ⟨g, cap, rfl, hbg, hg, hnc, hcm, hzl, hH⟩ := Go.Lib.holds_of_ownsRow h hv
  subst hzl
  refine (Any.slices_Sort_int Tryz.l189 g 0 cap zs w hH hg hn).mono ?_
  rintro e w' ⟨rfl, q, os, rfl⟩
  have hs : (srtI zs).length = zs.length := (srtI_perm zs).length_eq
  have h2 := Go.Lib.ownsRow_putRow (q := q) (k := zs.length) (ys := srtI zs) h hs (Nat.le_refl _)
  have h3 := own_grow h2 os
  rw [List.take_of_length_le (by omega)] at h3
  have hsz : w.heap.size ≤ (putRow (Value.int .i64) (Sort.ahead w q) g 0 (srtI zs).toArray).heap.size := by simp [putRow, mapBlock, Sort.ahead]
  refine ⟨rfl, by rw [flat_encI]; exact h3, ?_⟩
  exact below_grow' (Go.Lib.below_putRow (Below.refl _ _) hbg) hsz os (Nat.le_trans hb hsz)
/-- slices.Compact, of a row of the call's own -/
theorem compact_own {w : World} {base : Nat} {v : Value} {n : Nat} {zs : List Int} (h : w.ownsRow base 3 1 v n (zs.flatMap encI)) (hn : n < 4611686018427387904) (hb : base ≤ w.heap.size) :
  Calls Tryz.prog 82 #[v] w fun e w' => ∃ v', e = .returned v' ∧ w'.ownsRow base 3 1 v' (Go.Lib.compact zs).length ((Go.Lib.compact zs).flatMap encI) ∧ Below base w w' := by
 rw [flat_encI] at h
 by_cases hv : v = .slice none 0 0
 ·subst hv
  have hn0 : n = 0 := by
   rcases h.2 with ⟨_, h0⟩ | ⟨g, cap, cur, e, _⟩
   ·exact h0
   ·cases e
  subst hn0
  have hz : zs = [] := by have := h.1; simpa using this
  subst hz
  refine (Any.slices_Compact_int_empty Tryz.l220 none 0 w).mono ?_
  rintro e w' ⟨rfl, rfl⟩
  exact ⟨_, rfl, by simpa [Go.Lib.compact, Go.Lib.compactUpTo] using h, Below.refl _ _⟩
 ·obtain ⟨g, cap, rfl, hbg, hg, hnc, hcm, hzl, hH⟩ := Go.Lib.holds_of_ownsRow h hv
  subst hzl
  refine (Any.slices_Compact_int Tryz.l220 g 0 cap zs w hH (by omega) hnc).mono ?_
  rintro e w' ⟨rfl, q, rfl⟩
  have hle := Go.Lib.compact_length_le zs
  have h2 := Go.Lib.ownsRow_putRow (q := q) (k := (Go.Lib.compact zs).length) (ys := Go.Lib.compact zs ++ List.replicate (zs.length - (Go.Lib.compact zs).length) 0) h (by simp; omega) hle
  rw [List.take_left'] at h2
  ·exact ⟨_, rfl, by rw [flat_encI]; exact h2, Go.Lib.below_putRow (Below.refl _ _) hbg⟩
  ·rfl
end Go.Proofs.YtkhebanpplokdaaGreatDoor.Rg
namespace Go.Proofs
open Go.Shelf
def Tryz.lSortF_ren : Go.Shelf.Ren := ⟨fun | 6 => 84 | 15 => 119 | 14 => 121 | 28 => 154 | 29 => 155 | 20 => 156 | 21 => 157 | 22 => 158 | 23 => 159 | 24 => 160 | 25 => 161 | 26 => 162 | 27 => 163 | 46 => 184 | 47 => 180 | 48 => 181 | 49 => 185 | 50 => 186 | 57 => 196 | n => n, fun | 22 => 159 | 24 => 165 | 25 => 169 | 3 => 3 | 39 => 196 | 0 => 0 | 53 => 230 | 55 => 162 | 4 => 4 | 46 => 222 | 45 => 221 | 50 => 227 | 5 => 5 | 9 => 9 | 66 => 249 | 70 => 253 | 76 => 263 | 77 => 264 | n => n, fun | n => n⟩
theorem Tryz.lSortF : Go.Proofs.SlLaysF0.n6 Tryz.prog Tryz.lSortF_ren := {
  mixed := by kernel_rfl
  f6 := ⟨Tryz.f84.name, by decide, Tryz.func84.trans (congrArg some (by kernel_rfl))⟩
  f14 := ⟨Tryz.f121.name, by decide, Tryz.func121.trans (congrArg some (by kernel_rfl))⟩
  f15 := Tryz.func119.trans (congrArg some (by kernel_rfl))
  f20 := ⟨Tryz.f156.name, by decide, Tryz.func156.trans (congrArg some (by kernel_rfl))⟩
  f21 := ⟨Tryz.f157.name, by decide, Tryz.func157.trans (congrArg some (by kernel_rfl))⟩
  f22 := ⟨Tryz.f158.name, by decide, Tryz.func158.trans (congrArg some (by kernel_rfl))⟩
  f23 := ⟨Tryz.f159.name, by decide, Tryz.func159.trans (congrArg some (by kernel_rfl))⟩
  f24 := ⟨Tryz.f160.name, by decide, Tryz.func160.trans (congrArg some (by kernel_rfl))⟩
  f25 := ⟨Tryz.f161.name, by decide, Tryz.func161.trans (congrArg some (by kernel_rfl))⟩
  f26 := ⟨Tryz.f162.name, by decide, Tryz.func162.trans (congrArg some (by kernel_rfl))⟩
  f27 := ⟨Tryz.f163.name, by decide, Tryz.func163.trans (congrArg some (by kernel_rfl))⟩
  f28 := Tryz.func154.trans (congrArg some (by kernel_rfl))
  f29 := Tryz.func155.trans (congrArg some (by kernel_rfl))
  f46 := ⟨Tryz.f184.name, by decide, Tryz.func184.trans (congrArg some (by kernel_rfl))⟩
  f47 := Tryz.func180.trans (congrArg some (by kernel_rfl))
  f48 := Tryz.func181.trans (congrArg some (by kernel_rfl))
  f49 := ⟨Tryz.f185.name, by decide, Tryz.func185.trans (congrArg some (by kernel_rfl))⟩
  f50 := ⟨Tryz.f186.name, by decide, Tryz.func186.trans (congrArg some (by kernel_rfl))⟩
  f57 := ⟨Tryz.f196.name, by decide, Tryz.func196.trans (congrArg some (by kernel_rfl))⟩
  t0 := Tryz.underlying0
  a0 := Tryz.isAgg0
  z0 := Tryz.sizeOf0
  v0 := Tryz.zeroValue0
  t3 := Tryz.underlying3
  a3 := Tryz.isAgg3
  z3 := Tryz.sizeOf3
  v3 := Tryz.zeroValue3
  t4 := Tryz.underlying4
  a4 := Tryz.isAgg4
  z4 := Tryz.sizeOf4
  v4 := Tryz.zeroValue4
  t5 := Tryz.underlying5
  a5 := Tryz.isAgg5
  z5 := Tryz.sizeOf5
  v5 := Tryz.zeroValue5
  t9 := Tryz.underlying9
  a9 := Tryz.isAgg9
  z9 := Tryz.sizeOf9
  v9 := Tryz.zeroValue9
  t22 := Tryz.underlying159
  a22 := Tryz.isAgg159
  z22 := Tryz.sizeOf159
  v22 := Tryz.zeroValue159
  t25 := Tryz.underlying169
  a25 := Tryz.isAgg169
  z25 := Tryz.sizeOf169
  v25 := Tryz.zeroValue169
  t39 := Tryz.underlying196
  a39 := Tryz.isAgg196
  z39 := Tryz.sizeOf196
  v39 := Tryz.zeroValue196
  t45 := Tryz.underlying221
  a45 := Tryz.isAgg221
  z45 := Tryz.sizeOf221
  v45 := Tryz.zeroValue221
  t46 := Tryz.underlying222
  a46 := Tryz.isAgg222
  z46 := Tryz.sizeOf222
  v46 := Tryz.zeroValue222
  t50 := Tryz.underlying227
  a50 := Tryz.isAgg227
  z50 := Tryz.sizeOf227
  v50 := Tryz.zeroValue227
  t53 := Tryz.underlying230
  a53 := Tryz.isAgg230
  z53 := Tryz.sizeOf230
  v53 := Tryz.zeroValue230
  t55 := Tryz.underlying162
  a55 := Tryz.isAgg162
  z55 := Tryz.sizeOf162
  v55 := Tryz.zeroValue162
  t66 := Tryz.underlying249
  a66 := Tryz.isAgg249
  z66 := Tryz.sizeOf249
  v66 := Tryz.zeroValue249
  t70 := Tryz.underlying253
  a70 := Tryz.isAgg253
  z70 := Tryz.sizeOf253
  v70 := Tryz.zeroValue253
  t76 := Tryz.underlying263
  a76 := Tryz.isAgg263
  z76 := Tryz.sizeOf263
  v76 := Tryz.zeroValue263
  t77 := Tryz.underlying264
  a77 := Tryz.isAgg264
  z77 := Tryz.sizeOf264
  v77 := Tryz.zeroValue264 }
end Go.Proofs
namespace Go.Proofs.YtkhebanpplokdaaGreatDoor.Rg
open Go.RowKit Go.Sort Go.Shelf Go.Lib
theorem encQ_len (x : Int × Int) : (encQ x).length = 2 := rfl
theorem swoP : SWO (ltOf cfP) where
 irrefl x := by rw [ltOf_cfP]; simp [ltP]
 trans x y z h1 h2 := by rw [ltOf_cfP] at *; simp [ltP] at *; omega
 ntrans x y z h1 h2 := by rw [ltOf_cfP] at *; simp [ltP] at *; omega
theorem totP (x y : Int × Int) (h1 : ltOf cfP x y = false) (h2 : ltOf cfP y x = false) : x = y := by
 rw [ltOf_cfP] at *; simp [ltP] at *; exact Prod.ext (by omega) (by omega)
theorem holdsK_own {w : World} {base g cap n : Nat} {e : TypeId} {ps : List (Int × Int)} (h : w.ownsRow base e 2 (.slice (some ⟨g, 0, none⟩) n cap) n (ps.flatMap encQ)) : HoldsK encQ 2 w g 0 ps.toArray := by
 intro j hj
 have hj' : j < ps.length * 2 := by simpa [size_flatK] using hj
 have hi : j / 2 < ps.length := by omega
 have he : j / 2 * 2 + j % 2 = j := by omega
 refine ⟨?_, ?_⟩
 ·have hg := get_flatK encQ 2 ps.toArray j (by simpa using hj')
  have h1 := getElem?_flatMap_enc encQ_len ps (j / 2) (j % 2) ps[j/2] ((encQ ps[j / 2])[j % 2]'(by rw [encQ_len]; omega)) (List.getElem?_eq_getElem hi) (List.getElem?_eq_getElem _)
  rw [he] at h1
  have h2 := h.cells (g := g) (by simp [Value.ownBlock]) j _ h1
  rw [add_cell] at h2
  rw [Nat.zero_add, h2]
  show _ = some (flatK encQ 2 ps.toArray)[j]!
  rw [hg]
  have hm : j % 2 < (encQ ps[j / 2]).length := by rw [encQ_len]; omega
  simp [getElem!_pos, hi, List.getElem?_eq_getElem hm]
 ·rcases h.2 with ⟨e0, _⟩ | ⟨g', cap', cur, e0, hb, hg, _⟩
  ·cases e0
  ·cases e0
   simp [World.frozen?, hg]
theorem sortf_own {w : World} {base : Nat} {v : Value} {n : Nat} {ps : List (Int × Int)} (h : w.ownsRow base 165 2 v n (ps.flatMap encQ)) (hn : n < 1000000) (hb : base ≤ w.heap.size) :
  Calls Tryz.prog 84 #[v, .func (.func 85) #[] #[]] w fun e w' => e = .returned (.tuple #[]) ∧ Pts w' v (srtP ps) ∧ Below base w w' := by
 have hl : ps.length = n := by
  have := h.1
  rw [length_flatMap_enc encQ_len] at this
  omega
 rcases h.2 with ⟨rfl, h0⟩ | ⟨g, cap, cur, rfl, hbg, hg, hnc, hcm, hcs, _⟩
 ·subst h0
  have hz : ps = [] := List.eq_nil_of_length_eq_zero hl
  subst hz
  refine (AnyF.slices_SortFunc_none Tryz.lSortF none 0 _ w).mono ?_
  rintro e w' ⟨rfl, rfl⟩
  exact ⟨rfl, ⟨by simp [srtP], none, 0, by simp [srtP], by simp [srtP], fun i x hi => by simp [srtP] at hi⟩, Below.refl _ _⟩
 ·subst hl
  have hlt := (Array.getElem?_eq_some_iff.1 hg).1
  have hH := holdsK_own h
  have eg : ∀ args w, (callFunc 85 args).run Tryz.prog w = .ok (.enter 85 args) w := enters_of Tryz.func85 (by kernel_rfl) rfl
  have hcon := AnyQ.slices_SortFunc_total Tryz.lSortF 2 Tryz.isAgg165 Tryz.sizeOf165 encQ encQ_len (fun x u hu => by simp [encQ] at hu; rcases hu with rfl | rfl <;> rfl) cfP swoP 85 #[] g 0 cap ps.toArray w eg (fun _ _ _ _ x y => clos_any x y _) hH hlt (by simp; omega) totP
  refine Calls.mono hcon ?_
  rintro e w' ⟨rfl, q, os, rfl⟩
  have hs : (ps.toArray.toList.mergeSort fun x y => !(ltOf cfP) y x) = srtP ps := by
   unfold srtP
   congr 1
   funext x y
   rw [ltOf_cfP]; rfl
  rw [hs]
  have hsl : (srtP ps).length = ps.length := (srtP_perm ps).length_eq
  have hH2 := holdsK_sortWorldK_c encQ 2 w g 0 ps.toArray (srtP ps).toArray q os hH hlt (by simpa using hsl)
  have hsz : w.heap.size ≤ (putRowK encQ 2 (Sort.ahead w q) g 0 (srtP ps).toArray).heap.size := by simp [putRowK, putRow, mapBlock, Sort.ahead]
  refine ⟨rfl, ⟨by rw [hsl]; omega, some ⟨g, 0, none⟩, cap, by rw [hsl], by rw [hsl]; exact ⟨hnc, hcm⟩, ?_⟩, ?_⟩
  ·intro i x hi
   have hil : i < (srtP ps).length := (List.getElem?_eq_some_iff.1 hi).1
   refine ⟨g, 0, rfl, ?_, ?_⟩
   ·show g < (grow _ os).heap.size
    rw [size_grow]; omega
   ·intro j u hu
    have hj : j < 2 := by rw [← encQ_len x]; exact (List.getElem?_eq_some_iff.1 hu).1
    have := (hH2.cell (i := i) (c := j) (by simpa using hil) hj).1
    rw [this]
    have hx : (srtP ps).toArray[i]! = x := by
     rw [List.getElem?_eq_getElem hil] at hi
     cases hi
     simp [hil]
    rw [hx]
    congr 1
    obtain ⟨h1, h2⟩ := List.getElem?_eq_some_iff.1 hu
    simp [h1, h2]
  ·exact below_grow' (Go.Lib.below_putRow (Below.refl _ _) hbg) hsz os (Nat.le_trans hb hsz)
end Go.Proofs.YtkhebanpplokdaaGreatDoor.Rg
