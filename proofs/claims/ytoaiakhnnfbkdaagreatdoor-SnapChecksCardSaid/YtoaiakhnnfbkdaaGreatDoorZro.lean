/- Lemmas. -/
import Derived.Test.YtoaiakhnnfbkdaaGreatDoorZs
import Derived.StillTailTactics
import Derived.Sort.Grow
import Derived.Lib.SlicesCompact
import Derived.Shelf.SlSortCmp.Insertion
import Derived.Shelf.Sort.Plain
import Derived.Shelf.Slices.In.SortNone
import Derived.Shelf.Slices.CompactI
import Derived.Shelf.Slices.Turned
import Derived.Ground.NamesProg
import Derived.Ground.Names2Prog
import Derived.Lib.OwnBridge
import Derived.Shelf.SlSortCmp.NoneTotal
import Derived.Ground.SlsfProg
import Derived.Deep.RegionHeld3
import Derived.Deep.RegionLaw
import Derived.Deep.AppendLies
set_option maxRecDepth 100000
set_option maxHeartbeats 32000000
namespace Go.Proofs.YtoaiakhnnfbkdaaGreatDoor.Rg
open Go.ChangeShapes Go.WideShapes Go.ChangeAt Go.RowKit
theorem Tryz.infoI : (Tryz.prog.info? 3).map (fun i => (i.zero,i.size,i.bytes)) = some (some (.int .i64 0),1,8) := by kernel_rfl
theorem Tryz.infoQ : (Tryz.prog.info? 124).map (fun i => (i.zero,i.size,i.bytes)) = some (some (.agg #[.int .u64 0,.int .i64 0]),2,16) := by kernel_rfl
theorem info_parts' {P : Program} {t : TypeId} {z : Value} {s b : Nat} (h : (P.info? t).map (fun i => (i.zero,i.size,i.bytes)) = some (some z,s,b)) : ∃ i,P.info? t = some i /\ i.zero = some z /\ i.size = s /\ i.bytes = b := by
 cases hi : P.info? t with
 | none => simp [hi] at h
 | some i =>
  simp [hi] at h;exact ⟨i,rfl,h.1,h.2.1,h.2.2⟩
def x64 (a b : Int) : Int := bits BinOp.xor IntKind.u64 a b
def w64 (a : Int) : Int := IntKind.u64.wrap a
def scr1 (z : Int) : Int := w64 (x64 z (z / 1073741824) * 13787848793156543929)
def scr2 (z : Int) : Int := w64 (x64 z (z / 134217728) * 10723151780598845931)
def scr3 (z : Int) : Int := x64 z (z / 2147483648)
def scr (z : Int) : Int := scr3 (scr2 (scr1 z))
theorem scr_any (z : Int) (w : World) (_hz : U64 z) :
  Calls Tryz.prog 90 #[.int .u64 z] w fun e w' => e = .returned (.int .u64 (scr z)) /\ w = w' := by
 unfold U64 at _hz
 go_enter Tryz.func90,Tryz.ntmps90
 go_wp2;go_ret;exact ⟨rfl,rfl⟩
theorem wrap_u64_bd (x : Int) : 0 <= IntKind.u64.wrap x /\ IntKind.u64.wrap x <= 18446744073709551615 := by
 have e : IntKind.u64.wrap x = x % 18446744073709551616 := by
  simp [IntKind.wrap,IntKind.signed,IntKind.bits]
 rw [e];omega
theorem w64_bd (x : Int) : U64 (w64 x) := wrap_u64_bd x
theorem x64_bd (a b : Int) : U64 (x64 a b) := by
 unfold x64 bits;exact wrap_u64_bd _
theorem scr_bd (z : Int) : U64 (scr z) := x64_bd _ _
def mix (a b : Int) : Int := scr (w64 (11400714819323198485 + x64 (scr (w64 (a + 11400714819323198485))) b))
theorem mix_bd (a b : Int) : U64 (mix a b) := scr_bd _
theorem mix_any (a b : Int) (w : World) (_ha : U64 a) (_hb : U64 b) :
  Calls Tryz.prog 56 #[.int .u64 a,.int .u64 b] w fun e w' => e = .returned (.int .u64 (mix a b)) /\ w = w' := by
 unfold U64 at _ha _hb
 go_enter Tryz.func56,Tryz.ntmps56
 go_wp2_with fail
 refine (scr_any _ _ (w64_bd _)).mono ?_;rintro e w1 ⟨rfl,rfl⟩
 go_wp2_with fail
 refine (scr_any _ _ (w64_bd _)).mono ?_;rintro e w1 ⟨rfl,rfl⟩
 go_wp2_with fail
 go_ret;exact ⟨rfl,rfl⟩
def cmpI (x y : Int) : Int := if x < y then -1 else if y < x then 1 else 0
theorem cmpU_any (x y : Int) (w : World) : Calls Tryz.prog 60 #[.int .u64 x,.int .u64 y] w fun e w' => e = .returned (.int .i64 (cmpI x y)) /\ w = w' := by
 by_cases h1 : x < y
 ·have hf : cmpI x y = -1 := by rw [cmpI,if_pos h1]
  have HF := hide hf; clear hf
  go_enter Tryz.func60,Tryz.ntmps60
  go_wp2;go_ret;exact ⟨ret_int HF.out.symm,rfl⟩
 ·by_cases h2 : y < x
  ·have hf : cmpI x y = 1 := (by rw [cmpI,if_neg h1,if_pos h2]);have HF := hide hf; clear hf
   go_enter Tryz.func60,Tryz.ntmps60
   go_wp2;go_ret;exact ⟨ret_int HF.out.symm,rfl⟩
  ·have hf : cmpI x y = 0 := (by rw [cmpI,if_neg h1,if_neg h2]);have HF := hide hf; clear hf
   go_enter Tryz.func60,Tryz.ntmps60
   go_wp2;go_ret;exact ⟨ret_int HF.out.symm,rfl⟩
theorem cmpI_any (x y : Int) (w : World) : Calls Tryz.prog 61 #[.int .i64 x,.int .i64 y] w fun e w' => e = .returned (.int .i64 (cmpI x y)) /\ w = w' := by
 by_cases h1 : x < y
 ·have hf : cmpI x y = -1 := by rw [cmpI,if_pos h1]
  have HF := hide hf; clear hf
  go_enter Tryz.func61,Tryz.ntmps61
  go_wp2;go_ret;exact ⟨ret_int HF.out.symm,rfl⟩
 ·by_cases h2 : y < x
  ·have hf : cmpI x y = 1 := (by rw [cmpI,if_neg h1,if_pos h2]);have HF := hide hf; clear hf
   go_enter Tryz.func61,Tryz.ntmps61
   go_wp2;go_ret;exact ⟨ret_int HF.out.symm,rfl⟩
  ·have hf : cmpI x y = 0 := (by rw [cmpI,if_neg h1,if_neg h2]);have HF := hide hf; clear hf
   go_enter Tryz.func61,Tryz.ntmps61
   go_wp2;go_ret;exact ⟨ret_int HF.out.symm,rfl⟩
def orI (a b : Int) : Int := if a = 0 then b else a
theorem or2_any (a b : Int) (B cap : Nat) (w : World) (h0 : w.cell? ⟨B,0,none⟩ = some (.int .i64 a)) (h1 : w.cell? ⟨B,1,none⟩ = some (.int .i64 b)) :
  Calls Tryz.prog 59 #[.slice (some ⟨B,0,none⟩) 2 cap] w fun e w' => e = .returned (.int .i64 (orI a b)) /\ w = w' := by
 go_enter Tryz.func59,Tryz.ntmps59
 go_wp2
 go_loop [8] (fun i => ∃ k : Nat,k <= 2 /\ i = .int .i64 k /\ (1 <= k -> a = 0) /\ (2 <= k -> b = 0)) (fun i => 2 - (intOf i).toNat)
 case atStart => exact ⟨0,by omega,rfl,fun h => by omega,fun h => by omega⟩
 case round =>
  obtain ⟨k,hk,rfl,ha,hb⟩ := hrel;have HA := hide ha; clear ha;have HB := hide hb; clear hb;by_cases hk0 : k = 0
  ·subst hk0;by_cases h : a = 0
   ·subst h;go_wp2
    go_round
    case rel => exact ⟨1,by omega,rfl,by simp,by simp⟩
    case measure => simp [intOf]
   ·have hd : (a == 0) = false := (by simp [h]);have hf : orI a b = a := (by rw [orI,if_neg h]);have HF := hide hf; clear hf;have HH := hide h; clear h;go_wp2;go_ret;exact ⟨ret_int HF.out.symm,rfl⟩
  ·by_cases hk1 : k = 1
   ·subst hk1;have ha := HA.out (by omega);subst ha;by_cases h : b = 0
    ·subst h;go_wp2
     go_round
     case rel => exact ⟨2,by omega,rfl,by simp,by simp⟩
     case measure => simp [intOf]
    ·have hd : (b == 0) = false := (by simp [h]);have hf : orI 0 b = b := (by rw [orI,if_pos rfl]);have HF := hide hf; clear hf;have HH := hide h; clear h;go_wp2;go_ret;exact ⟨ret_int HF.out.symm,rfl⟩
   ·obtain rfl : k = 2 := (by omega);have ha := HA.out (by omega);have hb := HB.out (by omega);subst ha hb;go_wp2;go_ret;exact ⟨rfl,rfl⟩
def encQ (p : Int × Int) : List Value := [.int .u64 p.1,.int .i64 p.2]
abbrev Pts := Sl encQ 2
def cfP (x y : Int × Int) : Int := orI (cmpI x.1 y.1) (cmpI x.2 y.2)
theorem clos_any (x y : Int × Int) (W : World) : Calls Tryz.prog 58 #[.agg #[.int .u64 x.1,.int .i64 x.2],.agg #[.int .u64 y.1,.int .i64 y.2]] W fun e w' => e = .returned (.int .i64 (cfP x y)) /\ ∃ q os',w' = Go.Sort.grow (W.drewN q) os' := by
 have hf : orI (cmpI x.1 y.1) (cmpI x.2 y.2) = cfP x y := rfl;have HF := hide hf; clear hf;obtain ⟨x1,x2⟩ := x;obtain ⟨y1,y2⟩ := y;have c1 := cmpU_any x1 y1;have c2 := cmpI_any x2 y2;have hor : ∀ W' : World,Calls Tryz.prog 59 #[.slice (some ⟨W'.heap.size,0,none⟩) 2 2] (W'.alloc (.cells #[.int .i64 (cmpI x1 y1),.int .i64 (cmpI x2 y2)] 3)) fun e w' => e = .returned (.int .i64 (cfP (x1,x2) (y1,y2))) /\ W'.alloc (.cells #[.int .i64 (cmpI x1 y1),.int .i64 (cmpI x2 y2)] 3) = w' := fun W' => or2_any _ _ _ _ _ (by rw [<- add_cell]; exact cells_new W' [.int .i64 (cmpI x1 y1),.int .i64 (cmpI x2 y2)] 3 0 _ rfl) (by rw [<- add_cell]; exact cells_new W' [.int .i64 (cmpI x1 y1),.int .i64 (cmpI x2 y2)] 3 1 _ rfl);have HOR := hide hor; clear hor;have C1 := hide c1; clear c1;have C2 := hide c2; clear c2;clear HF;generalize cfP (x1,x2) (y1,y2) = r at HOR ⊢;generalize cmpI x1 y1 = r1 at C1 HOR;generalize cmpI x2 y2 = r2 at C2 HOR
 go_enter Tryz.func58,Tryz.ntmps58
 go_wp2_with fail
 obtain ⟨w2,hw2⟩ : ∃ w2,((W.alloc (.cells #[.int .u64 x1,.int .i64 x2] 124)).alloc (.cells #[.int .u64 y1,.int .i64 y2] 124)) = w2 := ⟨_,rfl⟩;have d1 : w2.cell? ⟨W.heap.size,0,none⟩ = some (.int .u64 x1) := by subst hw2; go_simp
 have d2 : w2.cell? ⟨W.heap.size,1,none⟩ = some (.int .i64 x2) := by subst hw2; go_simp
 have d3 : w2.cell? ⟨W.heap.size + 1,0,none⟩ = some (.int .u64 y1) := by subst hw2; go_simp
 have d4 : w2.cell? ⟨W.heap.size + 1,1,none⟩ = some (.int .i64 y2) := by subst hw2; go_simp
 have hg : Go.Sort.grow W (#[.cells #[.int .u64 x1,.int .i64 x2] 124,.cells #[.int .u64 y1,.int .i64 y2] 124]) = w2 := by
  rw [<- hw2,Go.Sort.alloc_eq_grow,Go.Sort.alloc_eq_grow,Go.Sort.grow_grow]; rfl
 rw [hw2];clear hw2;refine wp_region_still_tail 10 (by kernel_rfl) (by kernel_rfl) ?_;simp only [List.take_succ_cons,List.take_zero,List.drop_succ_cons,List.drop_zero]
 repeat still_step
 still_call ((C1.out _).mono fun _ _ h => ⟨h.1,h.2.symm⟩)
 repeat still_step
 still_call ((C2.out _).mono fun _ _ h => ⟨h.1,h.2.symm⟩)
 refine wpStill_nil ?_;change wpList _ _ _ _ _ w2.drew
 go_wp2_with (go_at_call 59; refine (HOR.out w2.drew).mono ?_; rintro e w6 ⟨rfl,rfl⟩)
 go_ret;refine ⟨rfl,1,(#[.cells #[.int .u64 x1,.int .i64 x2] 124,.cells #[.int .u64 y1,.int .i64 y2] 124] ++ #[.cells #[.int .i64 r1,.int .i64 r2] 3]), ?_⟩;rw [<- hg,Go.Sort.alloc_eq_grow,Go.Sort.grow_grow];rfl
open Go.Lib

def ltP (x y : Int × Int) : Bool := decide (x.1 < y.1 \/ x.1 = y.1 /\ x.2 < y.2)
theorem ltOf_cfP (x y : Int × Int) : ltOf cfP x y = ltP x y := by
 unfold ltOf cfP orI cmpI ltP;by_cases h1 : x.1 < y.1
 ·simp [h1]
 ·by_cases h2 : y.1 < x.1
  ·have : x.1 ≠ y.1 := (by omega);simp [h1,h2,this]
  ·have : x.1 = y.1 := (by omega);by_cases h3 : x.2 < y.2
   ·simp [this,h3]
   ·by_cases h4 : y.2 < x.2 <;> simp [this,h3,h4]
def leP (x y : Int × Int) : Bool := !ltP y x
def srtP (l : List (Int × Int)) : List (Int × Int) := l.mergeSort leP
theorem srtP_perm (l : List (Int × Int)) : (srtP l).Perm l := List.mergeSort_perm l leP
def srtI (l : List Int) : List Int := l.mergeSort fun x y => decide (x <= y)
theorem srtI_perm (l : List Int) : (srtI l).Perm l := List.mergeSort_perm l _
theorem srtI_sorted (l : List Int) : (srtI l).Pairwise (fun x y => x <= y) := by
 have h := List.pairwise_mergeSort (le := fun x y : Int => decide (x <= y)) (fun a b c h1 h2 => by simp at *; omega) (fun a b => by simp; omega) l;exact h.imp (by simp)
def ends (ids : List Int) : List Int := compact (srtI ids)
theorem compact_inv (zs : List Int) (hz : zs.Pairwise (fun x y => x <= y)) (m : Nat) (hm : m <= zs.length) :
  (compactUpTo zs.toArray m).Pairwise (fun x y => x < y) /\ (∀ x ∈ compactUpTo zs.toArray m,∃ j,j < m /\ x = zs.toArray[j]!) /\ (∀ j,j < m -> zs.toArray[j]! ∈ compactUpTo zs.toArray m) := by
 have hle : ∀ i j,i <= j -> j < zs.length -> zs.toArray[i]! <= zs.toArray[j]! := by
  intro i j hij hj;rcases Nat.lt_or_eq_of_le hij with h | h
  ·have := List.pairwise_iff_getElem.1 hz i j (by omega) hj h;simpa [hj,(by omega : i < zs.length)] using this
  ·subst h; omega
 induction m with
 | zero => exact ⟨by simp [compactUpTo],fun x hx => by simp [compactUpTo] at hx,fun j hj => by omega⟩
 | succ m ih =>
  obtain ⟨h1,h2,h3⟩ := ih (by omega);rw [compactUpTo_succ];by_cases hk : keeps zs.toArray m = true
  ·rw [if_pos hk];refine ⟨List.pairwise_append.2 ⟨h1,by simp, ?_⟩, ?_, ?_⟩
   ·intro x hx y hy;rw [List.mem_singleton.1 hy];obtain ⟨j,hj,rfl⟩ := h2 x hx;have hm0 : m ≠ 0 := by omega
    have hne : zs.toArray[m]! ≠ zs.toArray[m-1]! := by
     unfold keeps at hk;simp only [hm0,false_or,decide_eq_true_eq] at hk;exact hk
    have a1 := hle j (m-1) (by omega) (by omega);have a2 := hle (m-1) m (by omega) (by omega);omega
   ·intro x hx;rcases List.mem_append.1 hx with h | h
    ·obtain ⟨j,hj,e⟩ := h2 x h; exact ⟨j,by omega,e⟩
    ·exact ⟨m,by omega,List.mem_singleton.1 h⟩
   ·intro j hj;by_cases hjm : j = m
    ·subst hjm; simp
    ·exact List.mem_append_left _ (h3 j (by omega))
  ·rw [if_neg hk,List.append_nil];refine ⟨h1,fun x hx => ?_,fun j hj => ?_⟩
   ·obtain ⟨j,hj,e⟩ := h2 x hx; exact ⟨j,by omega,e⟩
   ·by_cases hjm : j = m
    ·subst hjm;have hj0 : j ≠ 0 := fun e => hk (by subst e; simp [keeps])
     have he : zs.toArray[j]! = zs.toArray[j-1]! := by
      unfold keeps at hk;simp only [hj0,false_or,decide_eq_true_eq] at hk;exact Classical.not_not.1 hk
     rw [he];exact h3 (j-1) (by omega)
    ·exact h3 j (by omega)
theorem ends_sorted (ids : List Int) : (ends ids).Pairwise (fun x y => x < y) := (compact_inv (srtI ids) (srtI_sorted ids) _ (Nat.le_refl _)).1
theorem ends_nodup (ids : List Int) : (ends ids).Nodup := (ends_sorted ids).imp (fun a => by omega)
def ptsOf (p : Nat) (id : Int) : List (Int × Int) := (List.range p).map fun k : Nat => (mix (mix 0 (w64 id)) (k : Int),id)
def raw (p : Nat) (E : List Int) : List (Int × Int) := E.flatMap (ptsOf p)
def pointsOf (p : Nat) (ids : List Int) : List (Int × Int) := srtP (raw p (ends ids))
def addF (acc : List Int) (x : Int) : List Int := if x ∈ acc then acc else acc ++ [x]
def firsts (l : List Int) : List Int := l.foldl addF []
end Go.Proofs.YtoaiakhnnfbkdaaGreatDoor.Rg
namespace Go.Proofs
open Go.Shelf
def Tryz.l189_ren : Go.Shelf.Ren := ⟨fun | 189 => 54 | 125 => 89 | 257 => 88 | 128 => 124 | 129 => 125 | 294 => 115 | 295 => 116 | 296 => 117 | 297 => 118 | 298 => 119 | 299 => 120 | 216 => 121 | 300 => 122 | 301 => 123 | 328 => 149 | 329 => 150 | 330 => 151 | 331 => 152 | 332 => 153 | 215 => 93 | 343 => 165 | n => n, fun | 28 => 22 | 3 => 3 | 46 => 150 | 0 => 0 | 51 => 185 | 53 => 121 | 4 => 4 | 183 => 177 | 182 => 176 | 131 => 182 | 5 => 5 | 9 => 9 | 218 => 204 | 222 => 208 | 228 => 218 | 229 => 219 | n => n, fun | n => n⟩
theorem Tryz.l189 : Go.Proofs.Lays.n189 Tryz.prog Tryz.l189_ren := {
  mixed := by kernel_rfl
  f125 := Tryz.func89.trans (congrArg some (by kernel_rfl))
  f128 := Tryz.func124.trans (congrArg some (by kernel_rfl))
  f129 := Tryz.func125.trans (congrArg some (by kernel_rfl))
  f189 := Tryz.func54.trans (congrArg some (by kernel_rfl))
  f215 := Tryz.func93.trans (congrArg some (by kernel_rfl))
  f216 := Tryz.func121.trans (congrArg some (by kernel_rfl))
  f257 := Tryz.func88.trans (congrArg some (by kernel_rfl))
  f294 := Tryz.func115.trans (congrArg some (by kernel_rfl))
  f295 := Tryz.func116.trans (congrArg some (by kernel_rfl))
  f296 := Tryz.func117.trans (congrArg some (by kernel_rfl))
  f297 := Tryz.func118.trans (congrArg some (by kernel_rfl))
  f298 := Tryz.func119.trans (congrArg some (by kernel_rfl))
  f299 := Tryz.func120.trans (congrArg some (by kernel_rfl))
  f300 := Tryz.func122.trans (congrArg some (by kernel_rfl))
  f301 := Tryz.func123.trans (congrArg some (by kernel_rfl))
  f328 := Tryz.func149.trans (congrArg some (by kernel_rfl))
  f329 := Tryz.func150.trans (congrArg some (by kernel_rfl))
  f330 := Tryz.func151.trans (congrArg some (by kernel_rfl))
  f331 := Tryz.func152.trans (congrArg some (by kernel_rfl))
  f332 := Tryz.func153.trans (congrArg some (by kernel_rfl))
  f343 := Tryz.func165.trans (congrArg some (by kernel_rfl))
  t0 := Tryz.underlying0
  a0 := Tryz.isAgg0
  z0 := Tryz.sizeOf0
  v0 := Tryz.zeroValue0
  t3 := Tryz.underlying3
  a3 := Tryz.isAgg3
  z3 := Tryz.sizeOf3
  v3 := Tryz.zeroValue3
  t4 := Tryz.underlying4
  a4 := Tryz.isAgg4
  z4 := Tryz.sizeOf4
  v4 := Tryz.zeroValue4
  t5 := Tryz.underlying5
  a5 := Tryz.isAgg5
  z5 := Tryz.sizeOf5
  v5 := Tryz.zeroValue5
  t9 := Tryz.underlying9
  a9 := Tryz.isAgg9
  z9 := Tryz.sizeOf9
  v9 := Tryz.zeroValue9
  t28 := Tryz.underlying22
  a28 := Tryz.isAgg22
  z28 := Tryz.sizeOf22
  v28 := Tryz.zeroValue22
  t46 := Tryz.underlying150
  a46 := Tryz.isAgg150
  z46 := Tryz.sizeOf150
  v46 := Tryz.zeroValue150
  t51 := Tryz.underlying185
  a51 := Tryz.isAgg185
  z51 := Tryz.sizeOf185
  v51 := Tryz.zeroValue185
  t53 := Tryz.underlying121
  a53 := Tryz.isAgg121
  z53 := Tryz.sizeOf121
  v53 := Tryz.zeroValue121
  t131 := Tryz.underlying182
  a131 := Tryz.isAgg182
  z131 := Tryz.sizeOf182
  v131 := Tryz.zeroValue182
  t182 := Tryz.underlying176
  a182 := Tryz.isAgg176
  z182 := Tryz.sizeOf176
  v182 := Tryz.zeroValue176
  t183 := Tryz.underlying177
  a183 := Tryz.isAgg177
  z183 := Tryz.sizeOf177
  v183 := Tryz.zeroValue177
  t218 := Tryz.underlying204
  a218 := Tryz.isAgg204
  z218 := Tryz.sizeOf204
  v218 := Tryz.zeroValue204
  t222 := Tryz.underlying208
  a222 := Tryz.isAgg208
  z222 := Tryz.sizeOf208
  v222 := Tryz.zeroValue208
  t228 := Tryz.underlying218
  a228 := Tryz.isAgg218
  z228 := Tryz.sizeOf218
  v228 := Tryz.zeroValue218
  t229 := Tryz.underlying219
  a229 := Tryz.isAgg219
  z229 := Tryz.sizeOf219
  v229 := Tryz.zeroValue219 }
def Tryz.l220_ren : Go.Shelf.Ren := ⟨fun | 20 => 55 | n => n, fun | 22 => 22 | 3 => 3 | 4 => 4 | 0 => 0 | n => n, fun | n => n⟩
theorem Tryz.l220 : Go.Proofs.Lays2.n20 Tryz.prog Tryz.l220_ren := {
  mixed := by kernel_rfl
  f20 := Tryz.func55.trans (congrArg some (by kernel_rfl))
  t0 := Tryz.underlying0
  a0 := Tryz.isAgg0
  z0 := Tryz.sizeOf0
  v0 := Tryz.zeroValue0
  t3 := Tryz.underlying3
  a3 := Tryz.isAgg3
  z3 := Tryz.sizeOf3
  v3 := Tryz.zeroValue3
  t4 := Tryz.underlying4
  a4 := Tryz.isAgg4
  z4 := Tryz.sizeOf4
  v4 := Tryz.zeroValue4
  t22 := Tryz.underlying22
  a22 := Tryz.isAgg22
  z22 := Tryz.sizeOf22
  v22 := Tryz.zeroValue22
  i3 := by kernel_rfl }
end Go.Proofs
namespace Go.Proofs.YtoaiakhnnfbkdaaGreatDoor.Rg
open Go.Shelf Go.RowKit Go.Sort
theorem flat_encI (zs : List Int) : zs.flatMap encI = zs.map (Value.int .i64) := by
 induction zs with
 | nil => rfl
 | cons z zs ih => simp [encI,ih]
theorem own_grow {w : World} {base : Nat} {e : TypeId} {size n : Nat} {v : Value} {xs : List Value} (h : w.ownsRow base e size v n xs) (os : Array Obj) : (grow w os).ownsRow base e size v n xs := by
 refine ⟨h.1, ?_⟩;rcases h.2 with hn | ⟨g,cap,cur,rfl,hb,hgg,rest⟩
 ·exact .inl hn
 ·refine .inr ⟨g,cap,cur,rfl,hb, ?_,rest⟩;have hl := (zg hgg);show (w.heap ++ os)[g]? = _;rw [Array.getElem?_append_left hl]; exact hgg
theorem below_grow' {B : Nat} {w0 w : World} (h : Below B w0 w) (_hw : w0.heap.size <= w.heap.size) (os : Array Obj) (hB : B <= w.heap.size) : Below B w0 (grow w os) :=
 ⟨h.os,h.tape,h.output,Nat.le_trans h.size (by simp),fun k hk => by
  rw [<- h.block k hk];show (w.heap ++ os)[k]? = _
  rw [Array.getElem?_append_left (by omega)]⟩
theorem own_ints {w : World} {base : Nat} {v : Value} {n : Nat} {zs : List Int} (h : w.ownsRow base 3 1 v n (zs.flatMap encI)) (hl : zs.length <= 9223372036854775807) : Ints w v zs := by
 have hn : zs.length = n := by simpa [flat_encI] using h.1
 subst hn;exact Sl.of_own (enc := encI) (size := 1) (fun _ => rfl) h hl
theorem sort_own {w : World} {base : Nat} {v : Value} {n : Nat} {zs : List Int} (h : w.ownsRow base 3 1 v n (zs.flatMap encI)) (hn : n < 4611686018427387904) (hb : base <= w.heap.size) :
  Calls Tryz.prog 54 #[v] w fun e w' => e = .returned (.tuple #[]) /\ w'.ownsRow base 3 1 v n ((srtI zs).flatMap encI) /\ Below base w w' := by
 rw [flat_encI] at h;by_cases hv : v = .slice none 0 0
 ·subst hv
  have hn0 : n = 0 := by
   rcases h.2 with ⟨_,h0⟩ | ⟨g,cap,cur,e,_⟩
   ·exact h0
   ·cases e
  subst hn0;have hz : zs = [] := by have := h.1; simpa using this
  subst hz;refine (Any.slices_Sort_int_none Tryz.l189 none 0 w).mono ?_;rintro e w' ⟨rfl,rfl⟩;exact ⟨rfl,by simpa [srtI] using h,zb⟩
 ·obtain ⟨g,cap,rfl,hbg,hg,hnc,hcm,hzl,hH⟩ := Go.Lib.holds_of_ownsRow h hv;subst hzl;refine (Any.slices_Sort_int Tryz.l189 g 0 cap zs w hH hg hn).mono ?_;rintro e w' ⟨rfl,q,os,rfl⟩;have hs : (srtI zs).length = zs.length := (srtI_perm zs).length_eq;have h2 := Go.Lib.ownsRow_putRow (q := q) (k := zs.length) (ys := srtI zs) h hs (Nat.le_refl _);have h3 := own_grow h2 os;rw [List.take_of_length_le (by omega)] at h3;have hsz : w.heap.size <= (putRow (Value.int .i64) (Sort.ahead w q) g 0 (srtI zs).toArray).heap.size := by simp [putRow,mapBlock,Sort.ahead]
  refine ⟨rfl,by rw [flat_encI]; exact h3, ?_⟩;exact below_grow' (Go.Lib.below_putRow zb hbg) hsz os (Nat.le_trans hb hsz)
theorem compact_own {w : World} {base : Nat} {v : Value} {n : Nat} {zs : List Int} (h : w.ownsRow base 3 1 v n (zs.flatMap encI)) (hn : n < 4611686018427387904) (hb : base <= w.heap.size) :
  Calls Tryz.prog 55 #[v] w fun e w' => ∃ v',e = .returned v' /\ w'.ownsRow base 3 1 v' (Go.Lib.compact zs).length ((Go.Lib.compact zs).flatMap encI) /\ Below base w w' := by
 rw [flat_encI] at h;by_cases hv : v = .slice none 0 0
 ·subst hv
  have hn0 : n = 0 := by
   rcases h.2 with ⟨_,h0⟩ | ⟨g,cap,cur,e,_⟩
   ·exact h0
   ·cases e
  subst hn0;have hz : zs = [] := by have := h.1; simpa using this
  subst hz;refine (Any.slices_Compact_int_empty Tryz.l220 none 0 w).mono ?_;rintro e w' ⟨rfl,rfl⟩;exact ⟨_,rfl,by simpa [Go.Lib.compact,Go.Lib.compactUpTo] using h,zb⟩
 ·obtain ⟨g,cap,rfl,hbg,hg,hnc,hcm,hzl,hH⟩ := Go.Lib.holds_of_ownsRow h hv;subst hzl;refine (Any.slices_Compact_int Tryz.l220 g 0 cap zs w hH (by omega) hnc).mono ?_;rintro e w' ⟨rfl,q,rfl⟩;have hle := Go.Lib.compact_length_le zs;have h2 := Go.Lib.ownsRow_putRow (q := q) (k := (Go.Lib.compact zs).length) (ys := Go.Lib.compact zs ++ List.replicate (zs.length - (Go.Lib.compact zs).length) 0) h (by simp; omega) hle;rw [List.take_left'] at h2
  ·exact ⟨_,rfl,by rw [flat_encI]; exact h2,Go.Lib.below_putRow zb hbg⟩
  ·rfl
end Go.Proofs.YtoaiakhnnfbkdaaGreatDoor.Rg
namespace Go.Proofs
open Go.Shelf
def Tryz.lSortF_ren : Go.Shelf.Ren := ⟨fun | 6 => 57 | 15 => 89 | 14 => 91 | 28 => 124 | 29 => 125 | 20 => 126 | 21 => 127 | 22 => 128 | 23 => 129 | 24 => 130 | 25 => 131 | 26 => 132 | 27 => 133 | 46 => 154 | 47 => 150 | 48 => 151 | 49 => 155 | 50 => 156 | 57 => 166 | n => n, fun | 22 => 118 | 24 => 124 | 25 => 128 | 3 => 3 | 39 => 150 | 0 => 0 | 53 => 185 | 55 => 121 | 4 => 4 | 46 => 177 | 45 => 176 | 50 => 182 | 5 => 5 | 9 => 9 | 66 => 204 | 70 => 208 | 76 => 218 | 77 => 219 | n => n, fun | n => n⟩
theorem Tryz.lSortF : Go.Proofs.SlLaysF0.n6 Tryz.prog Tryz.lSortF_ren := {
  mixed := by kernel_rfl
  f6 := ⟨Tryz.f57.name, by decide, Tryz.func57.trans (congrArg some (by kernel_rfl))⟩
  f14 := ⟨Tryz.f91.name, by decide, Tryz.func91.trans (congrArg some (by kernel_rfl))⟩
  f15 := Tryz.func89.trans (congrArg some (by kernel_rfl))
  f20 := ⟨Tryz.f126.name, by decide, Tryz.func126.trans (congrArg some (by kernel_rfl))⟩
  f21 := ⟨Tryz.f127.name, by decide, Tryz.func127.trans (congrArg some (by kernel_rfl))⟩
  f22 := ⟨Tryz.f128.name, by decide, Tryz.func128.trans (congrArg some (by kernel_rfl))⟩
  f23 := ⟨Tryz.f129.name, by decide, Tryz.func129.trans (congrArg some (by kernel_rfl))⟩
  f24 := ⟨Tryz.f130.name, by decide, Tryz.func130.trans (congrArg some (by kernel_rfl))⟩
  f25 := ⟨Tryz.f131.name, by decide, Tryz.func131.trans (congrArg some (by kernel_rfl))⟩
  f26 := ⟨Tryz.f132.name, by decide, Tryz.func132.trans (congrArg some (by kernel_rfl))⟩
  f27 := ⟨Tryz.f133.name, by decide, Tryz.func133.trans (congrArg some (by kernel_rfl))⟩
  f28 := Tryz.func124.trans (congrArg some (by kernel_rfl))
  f29 := Tryz.func125.trans (congrArg some (by kernel_rfl))
  f46 := ⟨Tryz.f154.name, by decide, Tryz.func154.trans (congrArg some (by kernel_rfl))⟩
  f47 := Tryz.func150.trans (congrArg some (by kernel_rfl))
  f48 := Tryz.func151.trans (congrArg some (by kernel_rfl))
  f49 := ⟨Tryz.f155.name, by decide, Tryz.func155.trans (congrArg some (by kernel_rfl))⟩
  f50 := ⟨Tryz.f156.name, by decide, Tryz.func156.trans (congrArg some (by kernel_rfl))⟩
  f57 := ⟨Tryz.f166.name, by decide, Tryz.func166.trans (congrArg some (by kernel_rfl))⟩
  t0 := Tryz.underlying0
  a0 := Tryz.isAgg0
  z0 := Tryz.sizeOf0
  v0 := Tryz.zeroValue0
  t3 := Tryz.underlying3
  a3 := Tryz.isAgg3
  z3 := Tryz.sizeOf3
  v3 := Tryz.zeroValue3
  t4 := Tryz.underlying4
  a4 := Tryz.isAgg4
  z4 := Tryz.sizeOf4
  v4 := Tryz.zeroValue4
  t5 := Tryz.underlying5
  a5 := Tryz.isAgg5
  z5 := Tryz.sizeOf5
  v5 := Tryz.zeroValue5
  t9 := Tryz.underlying9
  a9 := Tryz.isAgg9
  z9 := Tryz.sizeOf9
  v9 := Tryz.zeroValue9
  t22 := Tryz.underlying118
  a22 := Tryz.isAgg118
  z22 := Tryz.sizeOf118
  v22 := Tryz.zeroValue118
  t25 := Tryz.underlying128
  a25 := Tryz.isAgg128
  z25 := Tryz.sizeOf128
  v25 := Tryz.zeroValue128
  t39 := Tryz.underlying150
  a39 := Tryz.isAgg150
  z39 := Tryz.sizeOf150
  v39 := Tryz.zeroValue150
  t45 := Tryz.underlying176
  a45 := Tryz.isAgg176
  z45 := Tryz.sizeOf176
  v45 := Tryz.zeroValue176
  t46 := Tryz.underlying177
  a46 := Tryz.isAgg177
  z46 := Tryz.sizeOf177
  v46 := Tryz.zeroValue177
  t50 := Tryz.underlying182
  a50 := Tryz.isAgg182
  z50 := Tryz.sizeOf182
  v50 := Tryz.zeroValue182
  t53 := Tryz.underlying185
  a53 := Tryz.isAgg185
  z53 := Tryz.sizeOf185
  v53 := Tryz.zeroValue185
  t55 := Tryz.underlying121
  a55 := Tryz.isAgg121
  z55 := Tryz.sizeOf121
  v55 := Tryz.zeroValue121
  t66 := Tryz.underlying204
  a66 := Tryz.isAgg204
  z66 := Tryz.sizeOf204
  v66 := Tryz.zeroValue204
  t70 := Tryz.underlying208
  a70 := Tryz.isAgg208
  z70 := Tryz.sizeOf208
  v70 := Tryz.zeroValue208
  t76 := Tryz.underlying218
  a76 := Tryz.isAgg218
  z76 := Tryz.sizeOf218
  v76 := Tryz.zeroValue218
  t77 := Tryz.underlying219
  a77 := Tryz.isAgg219
  z77 := Tryz.sizeOf219
  v77 := Tryz.zeroValue219 }
end Go.Proofs
namespace Go.Proofs.YtoaiakhnnfbkdaaGreatDoor.Rg
open Go.RowKit Go.Sort Go.Shelf Go.Lib
theorem encQ_len (x : Int × Int) : (encQ x).length = 2 := rfl
theorem swoP : SWO (ltOf cfP) where
 irrefl x := by rw [ltOf_cfP]; simp [ltP]
 trans x y z h1 h2 := by rw [ltOf_cfP] at *; simp [ltP] at *; omega
 ntrans x y z h1 h2 := by rw [ltOf_cfP] at *; simp [ltP] at *; omega
theorem totP (x y : Int × Int) (h1 : ltOf cfP x y = false) (h2 : ltOf cfP y x = false) : x = y := by
 rw [ltOf_cfP] at *; simp [ltP] at *; exact Prod.ext (by omega) (by omega)
theorem holdsK_own {w : World} {base g cap n : Nat} {e : TypeId} {ps : List (Int × Int)} (h : w.ownsRow base e 2 (.slice (some ⟨g,0,none⟩) n cap) n (ps.flatMap encQ)) : HoldsK encQ 2 w g 0 ps.toArray := by
 intro j hj;have hj' : j < ps.length * 2 := by simpa [size_flatK] using hj
 have hi : j / 2 < ps.length := by omega
 have he : j / 2 * 2 + j % 2 = j := by omega
 refine ⟨?_, ?_⟩
 ·have hg := get_flatK encQ 2 ps.toArray j (by simpa using hj');have h1 := getElem?_flatMap_enc encQ_len ps (j / 2) (j % 2) ps[j/2] ((encQ ps[j / 2])[j % 2]'(by rw [encQ_len]; omega)) (List.getElem?_eq_getElem hi) (List.getElem?_eq_getElem _);rw [he] at h1;have h2 := h.cells (g := g) (by simp [Value.ownBlock]) j _ h1;rw [add_cell] at h2;rw [Nat.zero_add,h2];show _ = some (flatK encQ 2 ps.toArray)[j]!;rw [hg];have hm : j % 2 < (encQ ps[j / 2]).length := by rw [encQ_len]; omega
  simp [getElem!_pos,hi,List.getElem?_eq_getElem hm]
 ·rcases h.2 with ⟨e0,_⟩ | ⟨g',cap',cur,e0,hb,hg,_⟩
  ·cases e0
  ·cases e0
   simp [World.frozen?,hg]
theorem sortf_own {w : World} {base : Nat} {v : Value} {n : Nat} {ps : List (Int × Int)} (h : w.ownsRow base 124 2 v n (ps.flatMap encQ)) (hn : n < 1000000) (hb : base <= w.heap.size) :
  Calls Tryz.prog 57 #[v,.func (.func 58) #[] #[]] w fun e w' => e = .returned (.tuple #[]) /\ Pts w' v (srtP ps) /\ Below base w w' := by
 have hl : ps.length = n := by
  have := h.1;rw [length_flatMap_enc encQ_len] at this;omega
 rcases h.2 with ⟨rfl,h0⟩ | ⟨g,cap,cur,rfl,hbg,hg,hnc,hcm,hcs,_⟩
 ·subst h0;have hz : ps = [] := List.eq_nil_of_length_eq_zero hl;subst hz;refine (AnyF.slices_SortFunc_none Tryz.lSortF none 0 _ w).mono ?_;rintro e w' ⟨rfl,rfl⟩;exact ⟨rfl,⟨by simp [srtP],none,0,by simp [srtP],by simp [srtP],fun i x hi => by simp [srtP] at hi⟩,zb⟩
 ·subst hl;have hlt := (zg hg);have hH := holdsK_own h;have eg : ∀ args w,(callFunc 58 args).run Tryz.prog w = .ok (.enter 58 args) w := enters_of Tryz.func58 (by kernel_rfl) rfl;have hcon := AnyQ.slices_SortFunc_total Tryz.lSortF 2 Tryz.isAgg124 Tryz.sizeOf124 encQ encQ_len (fun x u hu => by simp [encQ] at hu; rcases hu with rfl | rfl <;> rfl) cfP swoP 58 #[] g 0 cap ps.toArray w eg (fun _ _ _ _ x y => clos_any x y _) hH hlt (by simp; omega) totP
  refine Calls.mono hcon ?_;rintro e w' ⟨rfl,q,os,rfl⟩
  have hs : (ps.toArray.toList.mergeSort fun x y => !(ltOf cfP) y x) = srtP ps := by
   unfold srtP;congr 1;funext x y;rw [ltOf_cfP]; rfl
  rw [hs];have hsl : (srtP ps).length = ps.length := (srtP_perm ps).length_eq;have hH2 := holdsK_sortWorldK_c encQ 2 w g 0 ps.toArray (srtP ps).toArray q os hH hlt (by simpa using hsl);have hsz : w.heap.size <= (putRowK encQ 2 (Sort.ahead w q) g 0 (srtP ps).toArray).heap.size := by simp [putRowK,putRow,mapBlock,Sort.ahead]
  refine ⟨rfl,⟨by rw [hsl]; omega,some ⟨g,0,none⟩,cap,by rw [hsl],by rw [hsl]; exact ⟨hnc,hcm⟩, ?_⟩, ?_⟩
  ·intro i x hi;have hil : i < (srtP ps).length := (List.getElem?_eq_some_iff.1 hi).1;refine ⟨g,0,rfl, ?_, ?_⟩
   ·show g < (grow _ os).heap.size;rw [size_grow]; omega
   ·intro j u hu;have hj : j < 2 := (by rw [<- encQ_len x]; exact (List.getElem?_eq_some_iff.1 hu).1);have := (hH2.cell (i := i) (c := j) (by simpa using hil) hj).1;rw [this]
    have hx : (srtP ps).toArray[i]! = x := by
     rw [List.getElem?_eq_getElem hil] at hi;cases hi;simp [hil]
    rw [hx];congr 1;obtain ⟨h1,h2⟩ := List.getElem?_eq_some_iff.1 hu;simp [h1,h2]
  ·exact below_grow' (Go.Lib.below_putRow zb hbg) hsz os (Nat.le_trans hb hsz)
open Go.ChangeShapes Go.WideShapes Go.ChangeAt
theorem encI_len (x : Int) : (encI x).length = 1 := rfl
def RingAt (w : World) (r : Value) (n : Nat) (P : List (Int × Int)) : Prop :=
 n <= 1000 /\ P.length <= 100000 /\ ∃ B a cap,r = .pointer (some ⟨B,0,none⟩) /\ w.heap[B]? = some (.cells #[.slice a P.length cap,.int .i64 n] 120 (0,0)) /\ Pts w (.slice a P.length cap) P
theorem RingAt.ext {w w' : World} {r : Value} {n : Nat} {P : List (Int × Int)} (h : RingAt w r n P) (e : Ext w w') : RingAt w' r n P := by
 obtain ⟨h0,h00,B,a,cap,h1,h2,h3⟩ := h;exact ⟨h0,h00,B,a,cap,h1,(e.block B (zg h2)).trans h2,h3.ext e⟩
def RingNew (base : Nat) (w : World) (r : Value) (n : Nat) (P : List (Int × Int)) : Prop :=
 n <= 1000 /\ P.length <= 100000 /\ ∃ B a cap,r = .pointer (some ⟨B,0,none⟩) /\ w.heap[B]? = some (.cells #[.slice a P.length cap,.int .i64 n] 120 (0,0)) /\ Pts w (.slice a P.length cap) P /\ base <= B /\ ∀ ad,a = some ad -> base <= ad.block
theorem RingNew.at {base : Nat} {w : World} {r : Value} {n : Nat} {P : List (Int × Int)} (h : RingNew base w r n P) : RingAt w r n P := by
 obtain ⟨h0,h00,B,a,cap,h1,h2,h3,_⟩ := h;exact ⟨h0,h00,B,a,cap,h1,h2,h3⟩
theorem RingNew.ext {base : Nat} {w w' : World} {r : Value} {n : Nat} {P : List (Int × Int)} (h : RingNew base w r n P) (e : Ext w w') : RingNew base w' r n P := by
 obtain ⟨h0,h00,B,a,cap,h1,h2,h3,h4⟩ := h;exact ⟨h0,h00,B,a,cap,h1,(e.block B (zg h2)).trans h2,h3.ext e,h4⟩
theorem RingNew.set {base : Nat} {w : World} {r : Value} {n : Nat} {P : List (Int × Int)} (h : RingNew base w r n P) (g j : Nat) (u : Value) (hg : g < base) : RingNew base (w.setCell ⟨g,j,none⟩ u) r n P := by
 obtain ⟨h0,h00,B,a,cap,h1,h2,h3,h4,h5⟩ := h;refine ⟨h0,h00,B,a,cap,h1,(Below.heap_setCell w _ u B (by simp; omega)).trans h2, ?_,h4,h5⟩;obtain ⟨q1,a',cap',q2,q3,q4⟩ := h3;refine ⟨q1,a',cap',q2,q3,fun i x hi => ?_⟩;obtain ⟨b,off,ha,hb,hc⟩ := q4 i x hi
 have hab : base <= b := by
  simp only [Value.slice.injEq] at q2;exact h5 ⟨b,off,none⟩ (q2.1.trans ha)
 have hbl : (w.setCell ⟨g,j,none⟩ u).heap[b]? = w.heap[b]? := Below.heap_setCell w _ u b (by simp; omega);refine ⟨b,off,ha,by show b < (w.heap.modify g _).size; rw [Array.size_modify]; exact hb,fun k v hk => ?_⟩;have := hc k v hk;simp only [World.cell?,hbl] at this ⊢;exact this
theorem ring_kept {wr w6 : World} {o X : Obj} {B : Nat} {e : TypeId} {s n : Nat} {v : Value} {xs : List Value} (hB : wr.heap[B]? = some X) (hown : wr.ownsRow (B + 1) e s v n xs) (hg : (wr.alloc o).drew.grownBy w6 v.ownBlock) : w6.heap[B]? = some X := by
 have hl := (zg hB);refine (hg.block B ?_ ?_).trans ((Below.heap_alloc wr o B hl).trans hB)
 ·show B < (wr.alloc o).heap.size;simp; omega
 ·intro e;have := (hown.lt B e.symm).1;omega
theorem own_shape {w : World} {B : Nat} {e : TypeId} {s n : Nat} {v : Value} {xs : List Value} (h : w.ownsRow B e s v n xs) : ∃ a c,v = .slice a n c := by
 rcases h.2 with ⟨rfl,h0⟩ | ⟨g,cap,cur,rfl,_⟩
 ·exact ⟨_,_,by rw [h0]⟩
 ·exact ⟨_,_,rfl⟩
theorem own_set {w : World} {base B : Nat} {e : TypeId} {s n : Nat} {v : Value} {xs : List Value} (h : w.ownsRow base e s v n xs) (hB : B < base) (o : Nat) (u : Value) : (w.setCell ⟨B,o,none⟩ u).ownsRow base e s v n xs := by
 refine ⟨h.1, ?_⟩;rcases h.2 with hn | ⟨g,cap,cur,rfl,hb,hgg,rest⟩
 ·exact .inl hn
 ·exact .inr ⟨g,cap,cur,rfl,hb,(Below.heap_setCell w _ u g (by simp; omega)).trans hgg,rest⟩
theorem set_ring {w : World} {B : Nat} {a b : Value} {t : TypeId} (h : w.heap[B]? = some (.cells #[a,b] t (0,0))) (u : Value) : (w.setCell ⟨B,0,none⟩ u).heap[B]? = some (.cells #[u,b] t (0,0)) := by
 obtain ⟨hlt,hk⟩ := Array.getElem?_eq_some_iff.1 h;show (w.heap.modify B _)[B]? = _;rw [Array.getElem?_eq_getElem (by rw [Array.size_modify]; exact hlt),Array.getElem_modify_self,hk];rfl
theorem cell_of2 {w : World} {B : Nat} {a b : Value} {t : TypeId} (h : w.heap[B]? = some (.cells #[a,b] t (0,0))) : w.cell? ⟨B,0,none⟩ = some a := by simp [World.cell?,h]
theorem frozen_of2 {w : World} {B : Nat} {a b : Value} {t : TypeId} (h : w.heap[B]? = some (.cells #[a,b] t (0,0))) : w.frozen? ⟨B,0,none⟩ = false := by simp [World.frozen?,h]
theorem raw_len (p : Nat) (E : List Int) : (raw p E).length = E.length * p := by
 unfold raw
 induction E with
 | nil => simp
 | cons e E ih => simp [ptsOf,ih,Nat.add_mul]; omega
theorem raw_take (p : Nat) (E : List Int) (i : Nat) (h : i < E.length) : raw p (E.take (i+1)) = raw p (E.take i) ++ ptsOf p E[i] := by
 unfold raw; rw [take_snoc E i h,List.flatMap_append]; simp
theorem pts_succ (p : Nat) (id : Int) : ptsOf (p+1) id = ptsOf p id ++ [(mix (mix 0 (w64 id)) (p : Int),id)] := by simp [ptsOf,List.range_succ]
theorem new_some (ids : List Int) (ad : Addr) (cap : Nat) (p : Nat) (w : World) (hs : Ints w (.slice (some ad) ids.length cap) ids) (hp : 1 <= p /\ p <= 64) (hl : ids.length <= 1000) :
  Calls Tryz.prog 23 #[.slice (some ad) ids.length cap,.int .i64 p] w fun e w' => ∃ r,e = .returned r /\ RingNew w.heap.size w' r (ends ids).length (pointsOf p ids) /\ Ext w w' := by
 obtain ⟨i0,hi,hz0,hz1,hz2⟩ := info_parts' Tryz.infoI;obtain ⟨iq,hq,hq0,hq1,hq2⟩ := info_parts' Tryz.infoQ
 have hid : ∀ u ∈ ids.flatMap encI,u.oneCell' = true := by
  rw [flat_encI]; intro u hu; obtain ⟨x,_,rfl⟩ := List.mem_map.1 hu; rfl
 have hfl : (ids.flatMap encI).length = ids.length * 1 := length_flatMap_enc encI_len ids;have HC := hide hs; clear hs;have HO := hide hid; clear hid;have HF := hide hfl; clear hfl
 go_enter Tryz.func23,Tryz.ntmps23
 go_wp2_with (at_builtin; refine wpList_append_own _ (by rfl) _ _ 22 (by rfl) w.heap.size 3 i0 (.int .i64 0) 1 8 Tryz.underlying22 hi hz0 hz1 hz2 rfl (by decide) (.slice none 0 0) 0 [] (by rfl) (World.ownsRow_nil _ _ _ _) ad ids.length cap (ids.flatMap encI) (by rfl) HF.out (HC.out.news encI_len (by decide)) HO.out (by unfold maxLen; omega) (by omega) (by omega) ?_; intro v1 w1 hown1 hgrow1 _)
 rw [Nat.zero_add,List.nil_append] at hown1;have E1 : Ext w w1 := Below.grown zb hgrow1 (Nat.le_refl _) (by intro r hr; simp [Value.ownBlock] at hr);have hs1 := E1.size
 go_wp2_with fail
 refine (sort_own hown1 (by omega) hs1).mono ?_;rintro e w2 ⟨rfl,hown2,B2⟩;have hs2 := Nat.le_trans hs1 B2.size
 go_wp2_with fail
 refine (compact_own hown2 (by omega) hs2).mono ?_;rintro e w3 ⟨v3,rfl,hown3,B3⟩;have hs3 := Nat.le_trans hs2 B3.size;have E3 : Ext w w3 := Below.trans E1 (Below.trans B2 B3);have HE3 := hide E3;have hel : (ends ids).length <= ids.length := by rw [<- (srtI_perm ids).length_eq]; exact Go.Lib.compact_length_le _
 change w3.ownsRow w.heap.size 3 1 v3 (ends ids).length ((ends ids).flatMap encI) at hown3;have hrl : ∀ k,k <= (ends ids).length -> (raw p ((ends ids).take k)).length = k * p := fun k hk => by rw [raw_len,List.length_take]; congr 1; omega
 have hpts : pointsOf p ids = srtP (raw p (ends ids)) := rfl;have HPT := hide hpts; clear hpts;obtain ⟨E,hEE⟩ : ∃ E,ends ids = E := ⟨_,rfl⟩;rw [hEE] at hown3 hel hrl HPT;have HEE := hide hEE;clear hEE;have hEI := own_ints hown3 (by omega);obtain ⟨_,a3,c3,rfl⟩ := hEI.shape;have HEI := hide hEI;have HRL := hide hrl
 have hkp : ∀ k,k <= E.length -> k * p <= 64000 := fun k hk => by
  have := Nat.mul_le_mul (show k <= 1000 by omega) hp.2;omega
 have HKP := hide hkp;clear hEI hown3 hown2 hown1 B2 B3 E1 hrl hkp E3;have hel' : (E.length : Int) <= 1000 := by omega
 have B0 : Below w3.heap.size w3 (w3.alloc (.cells #[.slice none 0 0,.int .i64 E.length] 120)) := za
 go_wp2_with fail
 go_loopw [23] (fun i wr => ∃ k : Nat,k <= E.length /\ i = .int .i64 k /\ ∃ v,wr.heap[w3.heap.size]? = some (.cells #[v,.int .i64 E.length] 120 (0,0)) /\ wr.ownsRow (w3.heap.size + 1) 124 2 v (k * p) ((raw p (E.take k)).flatMap encQ) /\ Below w3.heap.size w3 wr)
  (fun i _ => E.length - (intOf i).toNat)
 case atStart => exact ⟨0,Nat.zero_le _,rfl,_,heap_alloc_new w3 _,by simpa [raw] using World.ownsRow_nil _ _ _ _,B0⟩
 case round =>
  obtain ⟨k,hk,rfl,v,hB,hown,hb⟩ := hrel;by_cases hlt : k < E.length
  ·obtain ⟨b,off,rfl,hbb,hc⟩ := ints_at (HEI.out.ext hb) k hlt;obtain ⟨id,hid⟩ : ∃ id,E[k] = id := ⟨_,rfl⟩;rw [hid] at hc;have hmin : min (p : Int) 64 = p := by omega
   go_wp2_with fail
   refine (mix_any 0 (w64 id) _ (by unfold U64; omega) (w64_bd _)).mono ?_;rintro e w5 ⟨rfl,rfl⟩
   go_wp2_with fail
   go_loopw [32] (fun i wr => ∃ j : Nat,j <= p /\ i = .int .i64 j /\ ∃ v,wr.heap[w3.heap.size]? = some (.cells #[v,.int .i64 E.length] 120 (0,0)) /\ wr.ownsRow (w3.heap.size + 1) 124 2 v (k * p + j) ((raw p (E.take k) ++ ptsOf j id).flatMap encQ) /\ Below w3.heap.size w3 wr)
    (fun i _ => p - (intOf i).toNat)
   case atStart => exact ⟨0,Nat.zero_le _,rfl,v,hB,by simpa [ptsOf] using hown,hb⟩
   case round =>
    obtain ⟨j,hj,rfl,v',hB',hown',hb'⟩ := hrel;by_cases hjl : j < p
    ·have hju : U64 (j : Int) := by unfold U64; omega
     have hwj : IntKind.u64.wrap (j : Int) = (j : Int) := by
      have : IntKind.u64.wrap (j : Int) = (j : Int) % 18446744073709551616 := (by simp [IntKind.wrap,IntKind.signed,IntKind.bits]);rw [this]; omega
     have hkpk := HKP.out k hk;have hbs := hb'.size;have cv : wr.cell? ⟨w3.heap.size,0,none⟩ = some v' := (by simp [World.cell?,hB']);have fv : wr.frozen? ⟨w3.heap.size,0,none⟩ = false := (by simp [World.frozen?,hB']);have hlt2 : w3.heap.size < wr.heap.size := (zg hB');have HJU := hide hju; clear hju
     go_wp2_with fail
     go_region_law (first
      | (refine step_append_own (by rfl) _ _ _ (by rfl) (w3.heap.size + 1) 124 iq _ 2 16 Tryz.underlying118 hq hq0 hq1 hq2 rfl (by omega) v' (k * p + j) _ (by rfl) ((hown'.alloc _).drew) ⟨wr.heap.size,0,none⟩ 1 1 [.int .u64 (mix (mix 0 (w64 id)) j),.int .i64 id] (by rfl) (by rfl) (World.news_of_block (cs := #[.int .u64 (mix (mix 0 (w64 id)) j),.int .i64 id]) (t := 124) (fr := (0,0)) (heap_alloc_new wr _)) (by simp [Value.oneCell']) (by unfold maxLen; omega) (by omega) (by simp; omega) ?_; intro v2 w6 hown2 hgrow2 _; obtain ⟨a2,c2,rfl⟩ := own_shape hown2; have hB6 := ring_kept hB' hown' hgrow2; have cv6 := cell_of2 hB6; have fv6 := frozen_of2 hB6)
      | (go_simp; go_at_call 56; refine (mix_any (mix 0 (w64 id)) j _ (mix_bd _ _) HJU.out).mono ?_; rintro e w7 ⟨rfl,rfl⟩))
     all_goals
      have hb6 : Below w3.heap.size w3 w6 := ((hb'.alloc hbs _).drew).grown hgrow2 (by simp; omega) (fun r hr => by have := (hown'.lt r hr).1; omega);have hb7 := hb6.setCell (p := ⟨w3.heap.size,0,none⟩) (Nat.le_refl _) (.slice a2 (k * p + j + 1) c2);have hB7 := set_ring hB6 (.slice a2 (k * p + j + 1) c2);have hown7 := own_set hown2 (B := w3.heap.size) (by omega) 0 (.slice a2 (k * p + j + 1) c2);clear cv6 fv6 hB6 hown2 hgrow2 hb6 cv fv
      go_wp2_with fail
      go_roundw
      case rel => exact ⟨j + 1,hjl,by go_num,_,hB7,by rw [pts_succ,<- List.append_assoc,List.flatMap_append]; exact hown7,hb7⟩
      case measure => simp [intOf]; omega
    ·obtain rfl : j = p := by omega
     go_wp2_with fail
     go_roundw
     case rel => exact ⟨k + 1,hlt,by go_num,_,hB',by rw [raw_take _ _ _ hlt,hid,Nat.succ_mul]; exact hown',hb'⟩
     case measure => simp [intOf]; omega
  ·obtain rfl : k = E.length := (by omega);have hkp := HKP.out E.length (Nat.le_refl _);have hbs := hb.size;obtain ⟨a6,c6,rfl⟩ := own_shape hown;have hab : ∀ ad,a6 = some ad -> w3.heap.size + 1 <= ad.block := fun ad e => (hown.lt ad.block (by rw [e]; rfl)).1;have HAB := hide hab;clear hab;have cv := cell_of2 hB;rw [List.take_length] at hown;have hBl : w3.heap.size < wr.heap.size := (zg hB);have hrl : (raw p E).length = E.length * p := raw_len p E;have HOWN := hide hown; clear hown;have HBB := hide hB; clear hB
   go_wp2_with fail
   refine (sortf_own HOWN.out (by omega) (by omega)).mono ?_;rintro e w5 ⟨rfl,hP,b5⟩
   go_wp2_with fail
   go_ret;have hsl : (srtP (raw p E)).length = E.length * p := (by rw [(srtP_perm _).length_eq,hrl]);refine ⟨_,rfl,⟨by rw [HEE.out]; omega, ?_,w3.heap.size,a6,c6,rfl, ?_, ?_⟩, ?_⟩
   ·rw [HPT.out,hsl]; omega
   ·rw [HPT.out,hsl,HEE.out]; exact (b5.block _ (by omega)).trans HBB.out
   ·refine ⟨by rw [HPT.out,hsl]; exact hP,by omega,fun ad e => by have := HAB.out ad e; omega⟩
   ·exact HE3.out.trans (hb.trans (b5.mono (by omega)))
theorem new_none (cap : Nat) (p : Nat) (w : World) (_hp : 1 <= p /\ p <= 64) :
  Calls Tryz.prog 23 #[.slice none 0 cap,.int .i64 p] w fun e w' => ∃ r,e = .returned r /\ RingNew w.heap.size w' r (ends []).length (pointsOf p []) /\ Ext w w' := by
 go_enter Tryz.func23,Tryz.ntmps23
 go_wp2_with fail
 refine (Any.slices_Sort_int_none Tryz.l189 none 0 w).mono ?_;rintro e w1 ⟨rfl,rfl⟩
 go_wp2_with fail
 refine (Any.slices_Compact_int_empty Tryz.l220 none 0 w1).mono ?_;rintro e w2 ⟨rfl,rfl⟩;have B0 : Ext w2 (w2.alloc (.cells #[.slice none 0 0,.int .i64 0] 120)) := za;have hB := heap_alloc_new w2 (.cells #[.slice none 0 0,.int .i64 0] 120);have cv := cell_of2 hB;have hsz : (w2.alloc (.cells #[.slice none 0 0,.int .i64 0] 120)).heap.size = w2.heap.size + 1 := by simp
 have HB := hide hB; clear hB
 go_wp2_with fail
 go_loopw [23] (fun i wr => i = .int .i64 0 /\ wr = w2.alloc (.cells #[.slice none 0 0,.int .i64 0] 120)) (fun _ _ => 0)
 case atStart => exact ⟨rfl,rfl⟩
 case round =>
  obtain ⟨rfl,rfl⟩ := hrel
  go_wp2_with fail
  refine (sortf_own (ps := []) (World.ownsRow_nil _ (w2.heap.size + 1) _ _) (by omega) (by simp)).mono ?_;rintro e w5 ⟨rfl,hP,b5⟩
  go_wp2_with fail
  go_ret;have e1 : ends [] = [] := by simp [ends,srtI,Go.Lib.compact,Go.Lib.compactUpTo]
  have e2 : pointsOf p [] = [] := by rw [pointsOf,e1]; simp [raw,srtP]
  have e3 : srtP [] = [] := by simp [srtP]
  rw [e3] at hP;refine ⟨_,rfl,⟨by rw [e1]; simp,by rw [e2]; simp,w2.heap.size,none,0,rfl, ?_, ?_⟩, ?_⟩
  ·rw [e2,e1]; exact (b5.block _ (by omega)).trans HB.out
  ·exact ⟨by rw [e2]; exact hP,Nat.le_refl _,fun ad e => by cases e⟩
  ·exact B0.trans (Below.mono b5 (by omega))
theorem new_fresh (ids : List Int) (v : Value) (p : Nat) (w : World) (hs : Ints w v ids) (hp : 1 <= p /\ p <= 64) (hl : ids.length <= 1000) :
  Calls Tryz.prog 23 #[v,.int .i64 p] w fun e w' => ∃ r,e = .returned r /\ RingNew w.heap.size w' r (ends ids).length (pointsOf p ids) /\ Ext w w' := by
 obtain ⟨_,a,cap,rfl⟩ := hs.shape
 cases a with
 | none =>
  have h0 : ids = [] := by
   cases ids with
   | nil => rfl
   | cons x xs => obtain ⟨b,off,e,_⟩ := hs.some (by simp); cases e
  subst h0
  exact new_none cap p w hp
 | some ad => exact new_some ids ad cap p w hs hp hl
end Go.Proofs.YtoaiakhnnfbkdaaGreatDoor.Rg
