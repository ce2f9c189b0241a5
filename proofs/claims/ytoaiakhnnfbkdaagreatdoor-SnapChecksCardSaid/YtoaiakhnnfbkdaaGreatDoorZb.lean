/- Lemmas. -/
import Derived.Shelf.Strings.Count
import Derived.Test.YtoaiakhnnfbkdaaGreatDoorZm
import Derived.Deep.Cut
import Derived.Test.YtoaiakhnnfbkdaaGreatDoorZa
set_option maxRecDepth 100000
set_option maxHeartbeats 32000000
namespace Go.Proofs
open Go.Shelf
def Tryz.lCount_ren : Go.Shelf.Ren := ⟨fun | 138 => 114 | 195 => 147 | 218 => 148 | 143 => 141 | 219 => 160 | 217 => 169 | 225 => 170 | 224 => 171 | 267 => 172 | 266 => 174 | 314 => 175 | n => n, fun | 9 => 9 | 3 => 3 | 4 => 4 | 5 => 5 | 0 => 0 | 46 => 150 | 146 => 227 | 51 => 185 | n => n, fun | 1 => 0 | n => n⟩
theorem Tryz.lCount : Go.Proofs.Lays.n138 Tryz.prog Tryz.lCount_ren := {
  mixed := by kernel_rfl
  f138 := Tryz.func114.trans (congrArg some (by kernel_rfl))
  f143 := Tryz.func141.trans (congrArg some (by kernel_rfl))
  f195 := Tryz.func147.trans (congrArg some (by kernel_rfl))
  f217 := Tryz.func169.trans (congrArg some (by kernel_rfl))
  f218 := Tryz.func148.trans (congrArg some (by kernel_rfl))
  f219 := Tryz.func160.trans (congrArg some (by kernel_rfl))
  f224 := Tryz.func171.trans (congrArg some (by kernel_rfl))
  f225 := Tryz.func170.trans (congrArg some (by kernel_rfl))
  f266 := Tryz.func174.trans (congrArg some (by kernel_rfl))
  f267 := Tryz.func172.trans (congrArg some (by kernel_rfl))
  f314 := Tryz.func175.trans (congrArg some (by kernel_rfl))
  t0 := Tryz.underlying0
  a0 := Tryz.isAgg0
  z0 := Tryz.sizeOf0
  v0 := Tryz.zeroValue0
  t3 := Tryz.underlying3
  a3 := Tryz.isAgg3
  z3 := Tryz.sizeOf3
  v3 := Tryz.zeroValue3
  t4 := Tryz.underlying4
  a4 := Tryz.isAgg4
  z4 := Tryz.sizeOf4
  v4 := Tryz.zeroValue4
  t5 := Tryz.underlying5
  a5 := Tryz.isAgg5
  z5 := Tryz.sizeOf5
  v5 := Tryz.zeroValue5
  t9 := Tryz.underlying9
  a9 := Tryz.isAgg9
  z9 := Tryz.sizeOf9
  v9 := Tryz.zeroValue9
  t46 := Tryz.underlying150
  a46 := Tryz.isAgg150
  z46 := Tryz.sizeOf150
  v46 := Tryz.zeroValue150
  t51 := Tryz.underlying185
  a51 := Tryz.isAgg185
  z51 := Tryz.sizeOf185
  v51 := Tryz.zeroValue185
  t146 := Tryz.underlying227
  a146 := Tryz.isAgg227
  z146 := Tryz.sizeOf227
  v146 := Tryz.zeroValue227
  g1 := by kernel_rfl }
def Tryz.lCmpI_ren : Go.Shelf.Ren := ⟨fun | 122 => 61 | 215 => 93 | n => n, fun | 3 => 3 | 4 => 4 | n => n, fun | n => n⟩
theorem Tryz.lCmpI : Go.Proofs.Lays.n122 Tryz.prog Tryz.lCmpI_ren := {
  mixed := by kernel_rfl
  f122 := Tryz.func61.trans (congrArg some (by kernel_rfl))
  f215 := Tryz.func93.trans (congrArg some (by kernel_rfl))
  t3 := Tryz.underlying3
  a3 := Tryz.isAgg3
  z3 := Tryz.sizeOf3
  v3 := Tryz.zeroValue3
  t4 := Tryz.underlying4
  a4 := Tryz.isAgg4
  z4 := Tryz.sizeOf4
  v4 := Tryz.zeroValue4 }
end Go.Proofs
namespace Go.Proofs.YtoaiakhnnfbkdaaGreatDoor
open Go.ChangeShapes Go.WideShapes Go.ChangeAt Go.RowKit Go.Lib Go.Shelf
def rk0 (ex : Bool) : Int := if ex then 1 else 0
def rk1 (p : List UInt8) : Int := if p = [47] then 0 else (Lib.countByte p 47 : Int)
theorem rank_any (mp : ByteArray) (ex : Bool) (a : Option Addr) (n c : Nat) (w : World) :
  Calls Tryz.prog 87 #[.agg #[.string mp,.bool ex,.slice a n c]] w fun e w' => e = .returned (.agg #[.int .i64 (rk0 ex),.int .i64 (rk1 (bl mp)),.int .i64 n]) /\ Ext w w' := by
 have hcnt : ∀ u : World,Calls Tryz.prog 114 #[.string mp,.string ⟨#[47]⟩] u fun e w' => e = .returned (.int .i64 (Lib.countByte mp.data.toList 47)) /\ u = w' := fun u => (Any.strings_Count_one Tryz.lCount mp 47 u).mono (fun _ _ h => ⟨h.1,h.2.symm⟩);obtain ⟨q,hq⟩ : ∃ q : Nat,Lib.countByte mp.data.toList 47 = q := ⟨_,rfl⟩;have hr : rk1 (bl mp) = if bl mp = [47] then 0 else (q : Int) := by unfold rk1; rw [<- hq]; rfl
 simp only [hq] at hcnt;have HCNT := hide hcnt;have HR := hide hr;have hcx : ∀ X,Ext ((w.alloc (.cells #[.string mp,.bool ex,.slice a n c] 60)).alloc (.cells #[.int .i64 0,.int .i64 0,.int .i64 0] 104)) X -> X.cell? ⟨w.heap.size,0,none⟩ = some (.string mp) /\ X.cell? ⟨w.heap.size,2,none⟩ = some (.slice a n c) := fun X hX => ⟨(hX.cell (p := ⟨w.heap.size,0,none⟩) (by simp; omega)).trans (by go_simp),(hX.cell (p := ⟨w.heap.size,2,none⟩) (by simp; omega)).trans (by go_simp)⟩;have HCX := hide hcx;clear hcnt hr hcx hq
 have hfin : ∀ (i q : Int),rk1 (bl mp) = q -> i = rk0 ex -> ∀ w9,Ext w w9 -> (fun (e : Ending) (w' : World) => e = .returned (.agg #[.int .i64 (rk0 ex),.int .i64 (rk1 (bl mp)),.int .i64 n]) /\ Ext w w') (.returned (.agg #[.int .i64 i,.int .i64 q,.int .i64 n])) w9 := by
  rintro i q rfl rfl w9 h9;exact ⟨rfl,h9⟩
 have HF := hide hfin;clear hfin;by_cases hp : bl mp = [47]
 ·have hb : (mp.toList == [47]) = true := by rw [toL]; show (bl mp == [47]) = true; simpa using hp
  have hr := HR.out;rw [if_pos hp] at hr;have HR := hide hr;clear hr hp
  cases ex with
  | true =>
   go_enter Tryz.func87,Tryz.ntmps87
   go_wp2_with fail
   go_region_held3 (fun w' => w'.cell? ⟨w.heap.size,0,none⟩ = some (.string mp) /\ w'.cell? ⟨w.heap.size,2,none⟩ = some (.slice a n c))
    (first
     | exact HCX.out _ zb
     | exact HCX.out _ (Below.drew zb)
     | exact HCX.out _ (Below.drew za)
     | exact HCX.out _ (Below.drew (za.setCell (Nat.le_refl _) _)))
    (first | (go_at_call 114; refine (HCNT.out _).mono ?_; rintro e w8 ⟨rfl,rfl⟩))
   all_goals go_wp2_with fail
   all_goals
    refine bodyPost_ret (v := .agg #[.int .i64 1,.int .i64 0,.int .i64 n]) (by simp [results,Tryz.results87,go_sem]) rfl (HF.out 1 0 HR.out rfl _ ?_)
    exact ((za.alloc (by simp) _).alloc (by simp; omega) _).drew
  | false =>
   go_enter Tryz.func87,Tryz.ntmps87
   go_wp2_with fail
   go_region_held3 (fun w' => w'.cell? ⟨w.heap.size,0,none⟩ = some (.string mp) /\ w'.cell? ⟨w.heap.size,2,none⟩ = some (.slice a n c))
    (first
     | exact HCX.out _ zb
     | exact HCX.out _ (Below.drew zb)
     | exact HCX.out _ (Below.drew za)
     | exact HCX.out _ (Below.drew (za.setCell (Nat.le_refl _) _)))
    (first | (go_at_call 114; refine (HCNT.out _).mono ?_; rintro e w8 ⟨rfl,rfl⟩))
   all_goals go_wp2_with fail
   all_goals
    refine bodyPost_ret (v := .agg #[.int .i64 0,.int .i64 0,.int .i64 n]) (by simp [results,Tryz.results87,go_sem]) rfl (HF.out 0 0 HR.out rfl _ ?_);exact ((za.alloc (by simp) _).alloc (by simp; omega) _).drew
 ·have hb : (mp.toList == [47]) = false := by rw [toL]; show (bl mp == [47]) = false; simpa using hp
  have hr := HR.out;rw [if_neg hp] at hr;have HR := hide hr;clear hr hp
  cases ex with
  | true =>
   go_enter Tryz.func87,Tryz.ntmps87
   go_wp2_with fail
   go_region_held3 (fun w' => w'.cell? ⟨w.heap.size,0,none⟩ = some (.string mp) /\ w'.cell? ⟨w.heap.size,2,none⟩ = some (.slice a n c))
    (first
     | exact HCX.out _ zb
     | exact HCX.out _ (Below.drew zb)
     | exact HCX.out _ (Below.drew za)
     | exact HCX.out _ (Below.drew (za.setCell (Nat.le_refl _) _)))
    (first | (go_at_call 114; refine (HCNT.out _).mono ?_; rintro e w8 ⟨rfl,rfl⟩))
   all_goals go_wp2_with fail
   all_goals
    refine bodyPost_ret (v := .agg #[.int .i64 1,.int .i64 q,.int .i64 n]) (by simp [results,Tryz.results87,go_sem]) rfl (HF.out 1 q HR.out rfl _ ?_)
    exact ((za.alloc (by simp) _).alloc (by simp; omega) _).drew
  | false =>
   go_enter Tryz.func87,Tryz.ntmps87
   go_wp2_with fail
   go_region_held3 (fun w' => w'.cell? ⟨w.heap.size,0,none⟩ = some (.string mp) /\ w'.cell? ⟨w.heap.size,2,none⟩ = some (.slice a n c))
    (first
     | exact HCX.out _ zb
     | exact HCX.out _ (Below.drew zb)
     | exact HCX.out _ (Below.drew za)
     | exact HCX.out _ (Below.drew (za.setCell (Nat.le_refl _) _)))
    (first | (go_at_call 114; refine (HCNT.out _).mono ?_; rintro e w8 ⟨rfl,rfl⟩))
   all_goals go_wp2_with fail
   all_goals
    refine bodyPost_ret (v := .agg #[.int .i64 0,.int .i64 q,.int .i64 n]) (by simp [results,Tryz.results87,go_sem]) rfl (HF.out 0 q HR.out rfl _ ?_);exact ((za.alloc (by simp) _).alloc (by simp; omega) _).drew
def cmp3 (a b : Int × Int × Int) : Int :=
 if a.1 < b.1 then 1 else if b.1 < a.1 then -1 else
 if a.2.1 < b.2.1 then 1 else if b.2.1 < a.2.1 then -1 else
 if a.2.2 < b.2.2 then 1 else if b.2.2 < a.2.2 then -1 else 0
def rk3 (mp : ByteArray) (ex : Bool) (n : Nat) : Int × Int × Int := (rk0 ex,rk1 (bl mp),n)
def cmpI (a b : Int) : Int := if a < b then -1 else if b < a then 1 else 0
theorem metK {K : Act -> World -> Prop} {a b : Act} {w : World} (h : K b w) (e : b = a) : K a w := e ▸ h
def ArrB (T : TypeId) (W w : World) (v : Value) (c : Array Value) : Prop := ∃ g,v = .pointer (some ⟨g,0,none⟩) /\ W.heap.size <= g /\ g < w.heap.size /\ w.heap[g]? = some (.cells c T)
theorem ArrB.ext {T : TypeId} {W w w' : World} {v : Value} {c : Array Value} (h : ArrB T W w v c) (e : Ext w w') : ArrB T W w' v c := by
 obtain ⟨g,h1,h2,h3,h4⟩ := h;exact ⟨g,h1,h2,Nat.lt_of_lt_of_le h3 e.size,(e.block g h3).trans h4⟩
theorem ArrB.new {T : TypeId} {W w : World} (c : Array Value) (e : Ext W w) : ArrB T W (w.alloc (.cells c T)) (.pointer (some ⟨w.heap.size,0,none⟩)) c :=
 ⟨w.heap.size,rfl,e.size,by simp,by show (w.heap.push _)[w.heap.size]? = _; simp⟩
theorem ArrB.cell {T : TypeId} {w : World} {g : Nat} {c : Array Value} (h : w.heap[g]? = some (.cells c T)) (j : Nat) (u : Value) (hu : c[j]? = some u) : w.cell? ⟨g,j,none⟩ = some u := by
 rw [World.cell?];simp only [h];exact hu
theorem ArrB.frozen {T : TypeId} {w : World} {g : Nat} {c : Array Value} (h : w.heap[g]? = some (.cells c T)) (j : Nat) : w.frozen? ⟨g,j,none⟩ = false := by
 rw [World.frozen?];simp [h]
theorem ArrB.set {T : TypeId} {w : World} {g : Nat} {c : Array Value} (h : w.heap[g]? = some (.cells c T)) (j : Nat) (u : Value) : (w.setCell ⟨g,j,none⟩ u).heap[g]? = some (.cells (c.setIfInBounds j u) T) := by
 simp only [World.setCell,Array.getElem?_modify,h];simp
theorem ArrB.set_other {T : TypeId} {w : World} {g k : Nat} {c : Array Value} (h : w.heap[k]? = some (.cells c T)) (j : Nat) (u : Value) (hne : g ≠ k) : (w.setCell ⟨g,j,none⟩ u).heap[k]? = some (.cells c T) := by
 simp only [World.setCell,Array.getElem?_modify,h];simp [hne]
theorem frame28 (x : Nat -> Value) : frameOf 28 x = #[x 0,x 1,x 2,x 3,x 4,x 5,x 6,x 7,x 8,x 9,x 10,x 11,x 12,x 13,x 14,x 15,x 16,x 17,x 18,x 19,x 20,x 21,x 22,x 23,x 24,x 25,x 26,x 27] := rfl
theorem cmp_any (mp mq : ByteArray) (ex ey : Bool) (a b : Option Addr) (n c n2 c2 : Nat) (w : World) :
  Calls Tryz.prog 46 #[.agg #[.string mp,.bool ex,.slice a n c],.agg #[.string mq,.bool ey,.slice b n2 c2]] w fun e w' => e = .returned (.int .i64 (cmp3 (rk3 mp ex n) (rk3 mq ey n2))) /\ Ext w w' := by
 have h1 : ∀ X : World,Calls Tryz.prog 87 #[.agg #[.string mp,.bool ex,.slice a n c]] X fun e w' => e = .returned (.agg #[.int .i64 (rk0 ex),.int .i64 (rk1 (bl mp)),.int .i64 n]) /\ Ext X w' := rank_any mp ex a n c;have h2 : ∀ X : World,Calls Tryz.prog 87 #[.agg #[.string mq,.bool ey,.slice b n2 c2]] X fun e w' => e = .returned (.agg #[.int .i64 (rk0 ey),.int .i64 (rk1 (bl mq)),.int .i64 n2]) /\ Ext X w' := rank_any mq ey b n2 c2;unfold rk3;obtain ⟨x0,hx0⟩ : ∃ x,rk0 ex = x := ⟨_,rfl⟩;obtain ⟨x1,hx1⟩ : ∃ x,rk1 (bl mp) = x := ⟨_,rfl⟩;obtain ⟨x2,hx2⟩ : ∃ x : Int,n = x := ⟨_,rfl⟩;obtain ⟨y0,hy0⟩ : ∃ x,rk0 ey = x := ⟨_,rfl⟩;obtain ⟨y1,hy1⟩ : ∃ x,rk1 (bl mq) = x := ⟨_,rfl⟩;obtain ⟨y2,hy2⟩ : ∃ x : Int,n2 = x := ⟨_,rfl⟩;simp only [hx0,hx1,hx2,hy0,hy1,hy2] at h1 h2 ⊢;have H1 := hide h1;have H2 := hide h2;clear h1 h2 hx0 hx1 hx2 hy0 hy1 hy2
 go_enter Tryz.func46,Tryz.ntmps46
 go_wp2_with fail
 go_cut [5,6] from 14 (fun s5 s6 w' => ∃ g k,s5 = .pointer (some ⟨g,0,none⟩) /\ s6 = .pointer (some ⟨k,0,none⟩) /\ Ext w w' /\ w'.cell? ⟨g,0,none⟩ = some (.int .i64 x0) /\ w'.cell? ⟨g,1,none⟩ = some (.int .i64 x1) /\ w'.cell? ⟨g,2,none⟩ = some (.int .i64 x2) /\ w'.cell? ⟨k,0,none⟩ = some (.int .i64 y0) /\ w'.cell? ⟨k,1,none⟩ = some (.int .i64 y1) /\ w'.cell? ⟨k,2,none⟩ = some (.int .i64 y2))
 case first =>
  have hcx : ∀ X,Ext ((w.alloc (.cells #[.string mp,.bool ex,.slice a n c] 60)).alloc (.cells #[.string mq,.bool ey,.slice b n2 c2] 60)) X -> X.cell? ⟨w.heap.size,0,none⟩ = some (.string mp) /\ X.cell? ⟨w.heap.size,1,none⟩ = some (.bool ex) /\ X.cell? ⟨w.heap.size,2,none⟩ = some (.slice a n c) /\ X.cell? ⟨w.heap.size + 1,0,none⟩ = some (.string mq) /\ X.cell? ⟨w.heap.size + 1,1,none⟩ = some (.bool ey) /\ X.cell? ⟨w.heap.size + 1,2,none⟩ = some (.slice b n2 c2) :=
   fun X hX => ⟨(hX.cell (p := ⟨w.heap.size,0,none⟩) (by simp; omega)).trans (by go_simp),(hX.cell (p := ⟨w.heap.size,1,none⟩) (by simp; omega)).trans (by go_simp),(hX.cell (p := ⟨w.heap.size,2,none⟩) (by simp; omega)).trans (by go_simp),(hX.cell (p := ⟨w.heap.size + 1,0,none⟩) (by simp)).trans (by go_simp),(hX.cell (p := ⟨w.heap.size + 1,1,none⟩) (by simp)).trans (by go_simp),(hX.cell (p := ⟨w.heap.size + 1,2,none⟩) (by simp)).trans (by go_simp)⟩
  have HCX := hide hcx;have HE0 := hide ((za.alloc (by simp) _) : Ext w ((w.alloc (.cells #[.string mp,.bool ex,.slice a n c] 60)).alloc (.cells #[.string mq,.bool ey,.slice b n2 c2] 60)));generalize hW : ((w.alloc (.cells #[.string mp,.bool ex,.slice a n c] 60)).alloc (.cells #[.string mq,.bool ey,.slice b n2 c2] 60)) = W at *;clear hcx hW
  refine wp_region_inv 28 (fun L x w' => Ext W w' /\ (x 0 = .agg #[.string mp,.bool ex,.slice a n c] /\ x 1 = .agg #[.string mq,.bool ey,.slice b n2 c2] /\ x 2 = .pointer (some ⟨w.heap.size,0,none⟩) /\ x 3 = .pointer (some ⟨w.heap.size + 1,0,none⟩) /\ x 4 = .int .i64 0 /\ x 7 = undef /\ x 8 = undef /\ x 9 = undef) /\
   (L 0 = true -> x 10 = .agg #[.string mp,.bool ex,.slice a n c]) /\ (L 1 = true -> x 11 = .agg #[.int .i64 x0,.int .i64 x1,.int .i64 x2]) /\ (L 2 = true -> x 12 = .agg #[.string mq,.bool ey,.slice b n2 c2]) /\ (L 3 = true -> x 13 = .agg #[.int .i64 y0,.int .i64 y1,.int .i64 y2]) /\
   (L 4 = true -> ArrB 104 W w' (x 5) (if L 6 = true then #[.int .i64 x0,.int .i64 x1,.int .i64 x2] else #[.int .i64 0,.int .i64 0,.int .i64 0])) /\
   (L 5 = true -> ArrB 104 W w' (x 6) (if L 7 = true then #[.int .i64 y0,.int .i64 y1,.int .i64 y2] else #[.int .i64 0,.int .i64 0,.int .i64 0])) /\
   (L 4 = true -> L 5 = true -> x 5 ≠ x 6) /\ (L 6 = true -> L 4 = true) /\ (L 7 = true -> L 5 = true)) (by kernel_rfl) rfl (by kernel_rfl) ?_ ?_ ?_
  ·refine ⟨zb.drew,⟨rfl,rfl,rfl,rfl,rfl,rfl,rfl,rfl⟩, ?_⟩;simp
  ·intro i o ho L x w' hJ hLi hLb K hK;obtain ⟨hE,⟨f0,f1,f2,f3,f4,f7,f8,f9⟩,j0,j1,j2,j3,j4,j5,j45,j6,j7⟩ := hJ;have hi8 : i < 8 := (zg ho);have HF := hide (⟨f0,f1,f2,f3,f4,f7,f8,f9⟩ : _ /\ _ /\ _ /\ _ /\ _ /\ _ /\ _ /\ _);have HJ0 := hide j0;have HJ1 := hide j1;have HJ2 := hide j2;have HJ3 := hide j3;have HJ4 := hide j4;have HJ5 := hide j5;have HJ45 := hide j45;have HJ6 := hide j6;have HJ7 := hide j7;clear j0 j1 j2 j3 j4 j5 j45 j6 j7;rcases (by omega : i = 0 \/ i = 1 \/ i = 2 \/ i = 3 \/ i = 4 \/ i = 5 \/ i = 6 \/ i = 7) with rfl | rfl | rfl | rfl | rfl | rfl | rfl | rfl
   ·obtain ⟨d1,d2,d3,-,-,-⟩ := HCX.out _ hE;obtain rfl := Option.some.inj ho;unfold wpOp;simp only [ho];rw [if_pos (by rfl)];left;rw [frame28];go_simp;refine metK (hK.out (.agg #[.string mp,.bool ex,.slice a n c]) _ ?_) ?_
    ·refine ⟨hE,by simpa [putX] using HF.out,by simp [putX],by simpa [putX] using HJ1.out,by simpa [putX] using HJ2.out,by simpa [putX] using HJ3.out,by simpa [putX] using HJ4.out,by simpa [putX] using HJ5.out,by simpa [putX] using HJ45.out,by simpa [putX] using HJ6.out,by simpa [putX] using HJ7.out⟩
    ·simp [frame28,Act.put, *]
   ·have e10 := HJ0.out (hLb 0 (by decide));obtain rfl := Option.some.inj ho;unfold wpOp;simp only [ho];rw [if_pos (by rfl)];left;rw [frame28];go_simp;refine (H1.out _).mono ?_;rintro e w8 ⟨rfl,E8⟩;refine metK (hK.out (.agg #[.int .i64 x0,.int .i64 x1,.int .i64 x2]) _ ?_) ?_
    ·refine ⟨hE.trans E8,by simpa [putX] using HF.out,by simpa [putX] using HJ0.out,by simp [putX],by simpa [putX] using HJ2.out,by simpa [putX] using HJ3.out,by simpa [putX] using fun h => (HJ4.out h).ext E8,by simpa [putX] using fun h => (HJ5.out h).ext E8,by simpa [putX] using HJ45.out,by simpa [putX] using HJ6.out,by simpa [putX] using HJ7.out⟩
    ·simp [frame28,Act.put, *]
   ·obtain ⟨-,-,-,d1,d2,d3⟩ := HCX.out _ hE;obtain rfl := Option.some.inj ho;unfold wpOp;simp only [ho];rw [if_pos (by rfl)];left;rw [frame28];go_simp;refine metK (hK.out (.agg #[.string mq,.bool ey,.slice b n2 c2]) _ ?_) ?_
    ·refine ⟨hE,by simpa [putX] using HF.out,by simpa [putX] using HJ0.out,by simpa [putX] using HJ1.out,by simp [putX],by simpa [putX] using HJ3.out,by simpa [putX] using HJ4.out,by simpa [putX] using HJ5.out,by simpa [putX] using HJ45.out,by simpa [putX] using HJ6.out,by simpa [putX] using HJ7.out⟩
    ·simp [frame28,Act.put, *]
   ·have e12 := HJ2.out (hLb 2 (by decide));obtain rfl := Option.some.inj ho;unfold wpOp;simp only [ho];rw [if_pos (by rfl)];left;rw [frame28];go_simp;refine (H2.out _).mono ?_;rintro e w8 ⟨rfl,E8⟩;refine metK (hK.out (.agg #[.int .i64 y0,.int .i64 y1,.int .i64 y2]) _ ?_) ?_
    ·refine ⟨hE.trans E8,by simpa [putX] using HF.out,by simpa [putX] using HJ0.out,by simpa [putX] using HJ1.out,by simpa [putX] using HJ2.out,by simp [putX],by simpa [putX] using fun h => (HJ4.out h).ext E8,by simpa [putX] using fun h => (HJ5.out h).ext E8,by simpa [putX] using HJ45.out,by simpa [putX] using HJ6.out,by simpa [putX] using HJ7.out⟩
    ·simp [frame28,Act.put, *]
   ·have hL6 : L 6 = false := by
     cases h : L 6 with
     | false => rfl
     | true => rw [HJ6.out h] at hLi; cases hLi
    obtain rfl := Option.some.inj ho;unfold wpOp;simp only [ho];rw [if_pos (by rfl)];left;rw [frame28];go_simp;have hA := ArrB.new (T := 104) #[.int .i64 0,.int .i64 0,.int .i64 0] hE;have eA : Ext w' (w'.alloc (.cells #[.int .i64 0,.int .i64 0,.int .i64 0] 104)) := za;refine metK (hK.out (.pointer (some ⟨w'.heap.size,0,none⟩)) _ ?_) ?_
    ·refine ⟨hE.trans eA,by simpa [putX] using HF.out,by simpa [putX] using HJ0.out,by simpa [putX] using HJ1.out,by simpa [putX] using HJ2.out,by simpa [putX] using HJ3.out,fun _ => by simpa [putX,hL6] using hA,by simpa [putX] using fun h => (HJ5.out h).ext eA, ?_,fun _ => by simp,by simpa [putX] using HJ7.out⟩;intro _ h5;obtain ⟨g,hg,-,hlt,-⟩ := HJ5.out (by simpa using h5);simp [putX,hg]
     try omega
    ·simp [frame28,Act.put, *]
   ·have hL7 : L 7 = false := by
     cases h : L 7 with
     | false => rfl
     | true => rw [HJ7.out h] at hLi; cases hLi
    obtain rfl := Option.some.inj ho;unfold wpOp;simp only [ho];rw [if_pos (by rfl)];left;rw [frame28];go_simp;have hA := ArrB.new (T := 104) #[.int .i64 0,.int .i64 0,.int .i64 0] hE;have eA : Ext w' (w'.alloc (.cells #[.int .i64 0,.int .i64 0,.int .i64 0] 104)) := za;refine metK (hK.out (.pointer (some ⟨w'.heap.size,0,none⟩)) _ ?_) ?_
    ·refine ⟨hE.trans eA,by simpa [putX] using HF.out,by simpa [putX] using HJ0.out,by simpa [putX] using HJ1.out,by simpa [putX] using HJ2.out,by simpa [putX] using HJ3.out,by simpa [putX] using fun h => (HJ4.out h).ext eA,fun _ => by simpa [putX,hL7] using hA, ?_,by simpa [putX] using HJ6.out,fun _ => by simp⟩;intro h4 _;obtain ⟨g,hg,-,hlt,-⟩ := HJ4.out (by simpa using h4);simp [putX,hg]
     try omega
    ·simp [frame28,Act.put, *]
   ·have e11 := HJ1.out (hLb 1 (by decide));obtain ⟨g,e5,hg1,hg2,hg3⟩ := HJ4.out (hLb 4 (by decide));simp only [hLi,Bool.false_eq_true,if_false] at hg3;have d0 := ArrB.cell hg3 0 _ rfl;have d1 := ArrB.cell hg3 1 _ rfl;have d2 := ArrB.cell hg3 2 _ rfl;have z0 := ArrB.frozen hg3 0;have z1 := ArrB.frozen hg3 1;have z2 := ArrB.frozen hg3 2;obtain rfl := Option.some.inj ho;unfold wpOp;simp only [ho];rw [if_pos (by rfl)];left;rw [frame28];go_simp;have hset := ArrB.set (ArrB.set (ArrB.set hg3 0 (.int .i64 x0)) 1 (.int .i64 x1)) 2 (.int .i64 x2);have hbb : Ext W (((w'.setCell ⟨g,0,none⟩ (.int .i64 x0)).setCell ⟨g,1,none⟩ (.int .i64 x1)).setCell ⟨g,2,none⟩ (.int .i64 x2)) := Below.setCell (Below.setCell (Below.setCell hE hg1 _) hg1 _) hg1 _;refine metK (hK.out undef _ ?_) ?_
    ·refine ⟨hbb,by simpa [putX] using HF.out,by simpa [putX] using HJ0.out,by simpa [putX] using HJ1.out,by simpa [putX] using HJ2.out,by simpa [putX] using HJ3.out, ?_, ?_,by simpa [putX] using HJ45.out, ?_, ?_⟩
     ·intro _;simp only [BEq.rfl,Bool.true_or,if_true,putX];exact ⟨g,by simpa using e5,hg1,by simpa [World.setCell] using hg2,by simpa using hset⟩
     ·intro h5;obtain ⟨k,e6,hk1,hk2,hk3⟩ := HJ5.out (by simpa using h5);have hne : g ≠ k := fun e => HJ45.out (hLb 4 (by decide)) (by simpa using h5) (by rw [e5,e6,e]);refine ⟨k,by simpa [putX] using e6,hk1,by simpa [World.setCell] using hk2, ?_⟩;have := ArrB.set_other (ArrB.set_other (ArrB.set_other hk3 0 (.int .i64 x0) hne) 1 (.int .i64 x1) hne) 2 (.int .i64 x2) hne;simpa using this
     ·intro _;simpa using hLb 4 (by decide)
     ·simpa using HJ7.out
    ·simp [frame28,Act.put, *]
   ·have e13 := HJ3.out (hLb 3 (by decide));obtain ⟨g,e6,hg1,hg2,hg3⟩ := HJ5.out (hLb 5 (by decide));simp only [hLi,Bool.false_eq_true,if_false] at hg3;have d0 := ArrB.cell hg3 0 _ rfl;have d1 := ArrB.cell hg3 1 _ rfl;have d2 := ArrB.cell hg3 2 _ rfl;have z0 := ArrB.frozen hg3 0;have z1 := ArrB.frozen hg3 1;have z2 := ArrB.frozen hg3 2;obtain rfl := Option.some.inj ho;unfold wpOp;simp only [ho];rw [if_pos (by rfl)];left;rw [frame28];go_simp;have hset := ArrB.set (ArrB.set (ArrB.set hg3 0 (.int .i64 y0)) 1 (.int .i64 y1)) 2 (.int .i64 y2);have hbb : Ext W (((w'.setCell ⟨g,0,none⟩ (.int .i64 y0)).setCell ⟨g,1,none⟩ (.int .i64 y1)).setCell ⟨g,2,none⟩ (.int .i64 y2)) := Below.setCell (Below.setCell (Below.setCell hE hg1 _) hg1 _) hg1 _;refine metK (hK.out undef _ ?_) ?_
    ·refine ⟨hbb,by simpa [putX] using HF.out,by simpa [putX] using HJ0.out,by simpa [putX] using HJ1.out,by simpa [putX] using HJ2.out,by simpa [putX] using HJ3.out, ?_, ?_,by simpa [putX] using HJ45.out, ?_, ?_⟩
     ·intro h4;obtain ⟨k,e5,hk1,hk2,hk3⟩ := HJ4.out (by simpa using h4);have hne : g ≠ k := fun e => HJ45.out (by simpa using h4) (hLb 5 (by decide)) (by rw [e5,e6,e]);refine ⟨k,by simpa [putX] using e5,hk1,by simpa [World.setCell] using hk2, ?_⟩;have := ArrB.set_other (ArrB.set_other (ArrB.set_other hk3 0 (.int .i64 y0) hne) 1 (.int .i64 y1) hne) 2 (.int .i64 y2) hne;simpa using this
     ·intro _;simp only [BEq.rfl,Bool.true_or,if_true,putX];exact ⟨g,by simpa using e6,hg1,by simpa [World.setCell] using hg2,by simpa using hset⟩
     ·simpa using HJ6.out
     ·intro _;simpa using hLb 5 (by decide)
    ·simp [frame28,Act.put, *]
  ·intro L x w' hJ hL;obtain ⟨hE,⟨f0,f1,f2,f3,f4,f7,f8,f9⟩,-,-,-,-,j4,j5,-,-,-⟩ := hJ;have l6 := hL 6 (by decide);have l7 := hL 7 (by decide);obtain ⟨g,e5,hg1,hg2,hg3⟩ := j4 (hL 4 (by decide));obtain ⟨k,e6,hk1,hk2,hk3⟩ := j5 (hL 5 (by decide));simp only [l6,l7,if_true] at hg3 hk3;rw [frame28,f0,f1,f2,f3,f4,f7,f8,f9];have HR := hide (⟨g,k,e5,e6,Ext.trans HE0.out hE,ArrB.cell hg3 0 _ rfl,ArrB.cell hg3 1 _ rfl,ArrB.cell hg3 2 _ rfl,ArrB.cell hk3 0 _ rfl,ArrB.cell hk3 1 _ rfl,ArrB.cell hk3 2 _ rfl⟩ : ∃ g k,x 5 = .pointer (some ⟨g,0,none⟩) /\ x 6 = .pointer (some ⟨k,0,none⟩) /\ Ext w w' /\ w'.cell? ⟨g,0,none⟩ = some (.int .i64 x0) /\ w'.cell? ⟨g,1,none⟩ = some (.int .i64 x1) /\ w'.cell? ⟨g,2,none⟩ = some (.int .i64 x2) /\ w'.cell? ⟨k,0,none⟩ = some (.int .i64 y0) /\ w'.cell? ⟨k,1,none⟩ = some (.int .i64 y1) /\ w'.cell? ⟨k,2,none⟩ = some (.int .i64 y2));clear hg3 hk3 e5 e6 f0 f1 f2 f3 f4 f7 f8 f9 l6 l7 hL j4 j5
   go_wp2_with fail
   go_meet
   exact HR.out
 case rest =>
  obtain ⟨g,k,rfl,rfl,hE,hg0,hg1,hg2,hk0,hk1,hk2⟩ := hcut;have hfin : ∀ z,z = cmp3 (x0,x1,x2) (y0,y1,y2) -> ∀ w9,Ext wc w9 -> (Ending.returned (.int .i64 z) = .returned (.int .i64 (cmp3 (x0,x1,x2) (y0,y1,y2))) /\ Ext w w9) := fun z hz w9 h9 => ⟨by rw [hz],hE.trans h9⟩;have HF := hide hfin;have i0 : ∀ w : World,(Instr.index 104 (.agg #[.int .i64 x0,.int .i64 x1,.int .i64 x2]) (.int .i64 0)).run Tryz.prog w = .ok (.int .i64 x0) w := fun _ => by kernel_rfl
  have i1 : ∀ w : World,(Instr.index 104 (.agg #[.int .i64 x0,.int .i64 x1,.int .i64 x2]) (.int .i64 1)).run Tryz.prog w = .ok (.int .i64 x1) w := fun _ => by kernel_rfl
  have i2 : ∀ w : World,(Instr.index 104 (.agg #[.int .i64 x0,.int .i64 x1,.int .i64 x2]) (.int .i64 2)).run Tryz.prog w = .ok (.int .i64 x2) w := fun _ => by kernel_rfl
  have hcmp : ∀ (p q : Int) (X : World),Calls Tryz.prog 61 #[.int .i64 p,.int .i64 q] X fun e w' => e = .returned (.int .i64 (cmpI p q)) /\ w' = X := Any.cmp_Compare_int Tryz.lCmpI;have HC := hide hcmp;clear hfin hcmp hE
  go_wp2_with fail
  go_loopw [15] (fun i wr => wr = wc /\ ((i = .int .i64 0) \/ (i = .int .i64 1 /\ x0 = y0) \/ (i = .int .i64 2 /\ x0 = y0 /\ x1 = y1) \/ (i = .int .i64 3 /\ x0 = y0 /\ x1 = y1 /\ x2 = y2))) (fun i _ => 3 - (intOf i).toNat)
  case atStart => exact ⟨rfl,.inl rfl⟩
  case round =>
   obtain ⟨rfl,h⟩ := hrel;rcases h with rfl | ⟨rfl,e0⟩ | ⟨rfl,e0,e1⟩ | ⟨rfl,e0,e1,e2⟩
   ·rcases Int.lt_trichotomy x0 y0 with hc | hEQ | hc
    ·have hv : cmpI y0 x0 = 1 := (by unfold cmpI; rw [if_neg (by omega),if_pos hc]);have HK := hide (hc :  x0 < y0);clear hc
     go_wp2_with (go_at_call 61; refine (HC.out _ _ _).mono ?_; rintro e w7 ⟨rfl,rfl⟩; rw [hv])
     go_ret;refine HF.out _ ?_ _ zb;have hc := HK.out;unfold cmp3;simp;omega
    ·have hv : cmpI y0 x0 = 0 := (by unfold cmpI; rw [if_neg (by omega),if_neg (by omega)]);have HK := hide (hEQ :  x0 = y0);clear hEQ
     go_wp2_with (go_at_call 61; refine (HC.out _ _ _).mono ?_; rintro e w7 ⟨rfl,rfl⟩; rw [hv])
     go_roundw
     case rel =>
      have hEQ := HK.out;exact ⟨trivial,.inr (.inl ⟨rfl,hEQ⟩)⟩
     case measure => simp [intOf]
    ·have hv : cmpI y0 x0 = -1 := (by unfold cmpI; rw [if_pos (by omega)]);have HK := hide (hc :  y0 < x0);clear hc
     go_wp2_with (go_at_call 61; refine (HC.out _ _ _).mono ?_; rintro e w7 ⟨rfl,rfl⟩; rw [hv])
     go_ret;refine HF.out _ ?_ _ zb;have hc := HK.out;unfold cmp3;simp;omega
   ·rcases Int.lt_trichotomy x1 y1 with hc | hEQ | hc
    ·have hv : cmpI y1 x1 = 1 := (by unfold cmpI; rw [if_neg (by omega),if_pos hc]);have HK := hide (⟨e0,hc⟩ : x0 = y0 /\  x1 < y1);clear e0 hc
     go_wp2_with (go_at_call 61; refine (HC.out _ _ _).mono ?_; rintro e w7 ⟨rfl,rfl⟩; rw [hv])
     go_ret;refine HF.out _ ?_ _ zb;obtain ⟨rfl,hc⟩ := HK.out;unfold cmp3;simp;omega
    ·have hv : cmpI y1 x1 = 0 := (by unfold cmpI; rw [if_neg (by omega),if_neg (by omega)]);have HK := hide (⟨e0,hEQ⟩ : x0 = y0 /\  x1 = y1);clear e0 hEQ
     go_wp2_with (go_at_call 61; refine (HC.out _ _ _).mono ?_; rintro e w7 ⟨rfl,rfl⟩; rw [hv])
     go_roundw
     case rel =>
      obtain ⟨e0,hEQ⟩ := HK.out;exact ⟨trivial,.inr (.inr (.inl ⟨rfl,e0,hEQ⟩))⟩
     case measure => simp [intOf]
    ·have hv : cmpI y1 x1 = -1 := (by unfold cmpI; rw [if_pos (by omega)]);have HK := hide (⟨e0,hc⟩ : x0 = y0 /\  y1 < x1);clear e0 hc
     go_wp2_with (go_at_call 61; refine (HC.out _ _ _).mono ?_; rintro e w7 ⟨rfl,rfl⟩; rw [hv])
     go_ret;refine HF.out _ ?_ _ zb;obtain ⟨rfl,hc⟩ := HK.out;unfold cmp3;simp;omega
   ·rcases Int.lt_trichotomy x2 y2 with hc | hEQ | hc
    ·have hv : cmpI y2 x2 = 1 := (by unfold cmpI; rw [if_neg (by omega),if_pos hc]);have HK := hide (⟨e0,e1,hc⟩ : x0 = y0 /\ x1 = y1 /\  x2 < y2);clear e0 e1 hc
     go_wp2_with (go_at_call 61; refine (HC.out _ _ _).mono ?_; rintro e w7 ⟨rfl,rfl⟩; rw [hv])
     go_ret;refine HF.out _ ?_ _ zb;obtain ⟨rfl,rfl,hc⟩ := HK.out;unfold cmp3;simp;omega
    ·have hv : cmpI y2 x2 = 0 := (by unfold cmpI; rw [if_neg (by omega),if_neg (by omega)]);have HK := hide (⟨e0,e1,hEQ⟩ : x0 = y0 /\ x1 = y1 /\  x2 = y2);clear e0 e1 hEQ
     go_wp2_with (go_at_call 61; refine (HC.out _ _ _).mono ?_; rintro e w7 ⟨rfl,rfl⟩; rw [hv])
     go_roundw
     case rel =>
      obtain ⟨e0,e1,hEQ⟩ := HK.out;exact ⟨trivial,.inr (.inr (.inr ⟨rfl,e0,e1,hEQ⟩))⟩
     case measure => simp [intOf]
    ·have hv : cmpI y2 x2 = -1 := (by unfold cmpI; rw [if_pos (by omega)]);have HK := hide (⟨e0,e1,hc⟩ : x0 = y0 /\ x1 = y1 /\  y2 < x2);clear e0 e1 hc
     go_wp2_with (go_at_call 61; refine (HC.out _ _ _).mono ?_; rintro e w7 ⟨rfl,rfl⟩; rw [hv])
     go_ret;refine HF.out _ ?_ _ zb;obtain ⟨rfl,rfl,hc⟩ := HK.out;unfold cmp3;simp;omega
   ·have HE := hide (⟨e0,e1,e2⟩ : x0 = y0 /\ x1 = y1 /\ x2 = y2);clear e0 e1 e2;go_wp2;go_ret;refine HF.out _ ?_ _ zb;obtain ⟨rfl,rfl,rfl⟩ := HE.out;simp [cmp3]
def outB (low high n : Int) : Bool := decide (n < low) || decide (high < n)
def wchk (lo hi z : Int) (L : List Int) : Int := if L.any (outB lo hi) = true then z else 0
theorem wchk_t {lo hi z : Int} {L : List Int} (h : L.any (outB lo hi) = true) : z = wchk lo hi z L := by unfold wchk; rw [if_pos h]
theorem wchk_f {lo hi z : Int} {L : List Int} (h : L.any (outB lo hi) = false) : 0 = wchk lo hi z L := by unfold wchk; rw [h]; rfl
def Asks (w : World) (v : Value) (z : Int) : Prop := ∃ k caps,v = .func (.func k) #[] caps /\ (∀ w,(callFunc k caps).run Tryz.prog w = .ok (.enter k caps) w) /\ ∀ w',Ext w w' -> Calls Tryz.prog k caps w' fun e w'' => e = .returned (.int .i64 z) /\ Ext w' w''
theorem Asks.ext {w w' : World} {v : Value} {z : Int} (h : Asks w v z) (e : Ext w w') : Asks w' v z := by
 obtain ⟨k,c,h1,h2,h3⟩ := h;exact ⟨k,c,h1,h2,fun w'' e' => h3 w'' (Ext.trans e e')⟩
theorem within1_any (L : List Int) (lo hi z : Int) (v : Value) (b0 b1 b2 b3 : Nat) (w : World) (hs : Ints w v L) (c0 : w.cell? ⟨b0,0,none⟩ = some v) (c1 : w.cell? ⟨b1,0,none⟩ = some (.int .i64 lo)) (c2 : w.cell? ⟨b2,0,none⟩ = some (.int .i64 hi)) (c3 : w.cell? ⟨b3,0,none⟩ = some (.int .i64 z)) :
  Calls Tryz.prog 110 #[.pointer (some ⟨b0,0,none⟩),.pointer (some ⟨b1,0,none⟩),.pointer (some ⟨b2,0,none⟩),.pointer (some ⟨b3,0,none⟩)] w fun e w' => e = .returned (.int .i64 (wchk lo hi z L)) /\ Ext w w' := by
 obtain ⟨_,a,c,rfl⟩ := hs.shape;have HS := hide hs;clear hs
 go_enter Tryz.func110,Tryz.ntmps110
 go_wp2_with fail
 go_loopw [9] (fun i wr => ∃ k : Nat,k <= L.length /\ i = .int .i64 k /\ (L.take k).any (outB lo hi) = false /\ wr = w) (fun i _ => L.length - (intOf i).toNat)
 case atStart => exact ⟨0,by omega,rfl,by simp,rfl⟩
 case round =>
  obtain ⟨k,hk,rfl,hok,rfl⟩ := hrel;by_cases hlt : k < L.length
  ·obtain ⟨b,off,rfl,hbb,hc⟩ := ints_at HS.out k hlt;obtain ⟨x,hx⟩ : ∃ x,L[k] = x := ⟨_,rfl⟩;have hsn : (L.take (k + 1)).any (outB lo hi) = outB lo hi x := by rw [take_snoc L k hlt,List.any_append,hok,hx]; simp
   have hbd : outB lo hi x = true -> L.any (outB lo hi) = true := fun h => by
    rw [List.any_eq_true]; exact ⟨L[k],List.getElem_mem hlt,by rw [hx]; exact h⟩
   rw [hx] at hc;have HSN := hide hsn;have HBD := hide hbd;clear hsn hbd hok hx;by_cases hl : x < lo
   ·have HO := hide (HBD.out (by simp [outB,hl]));go_wp2;go_ret;exact ⟨ret_int (wchk_t HO.out),zb⟩
   ·by_cases hh : hi < x
    ·have HO := hide (HBD.out (by simp [outB,hh]));go_wp2;go_ret;exact ⟨ret_int (wchk_t HO.out),zb⟩
    ·have HO := hide (HSN.out.trans (show outB lo hi x = false by simp [outB,hl,hh]));go_wp2
     go_roundw
     case rel => exact ⟨k + 1,hlt,by go_num,HO.out,trivial⟩
     case measure => simp [intOf]; omega
  ·obtain rfl : k = L.length := (by omega);rw [List.take_length] at hok;have HOK := hide hok;clear hok;go_wp2;go_ret;exact ⟨ret_int (wchk_f HOK.out),zb⟩
theorem within_any (L : List Int) (lo hi z : Int) (v : Value) (w : World) (hs : Ints w v L) :
  Calls Tryz.prog 83 #[.int .i64 z,.int .i64 lo,.int .i64 hi,v] w fun e w' => ∃ u,e = .returned u /\ Asks w' u (wchk lo hi z L) /\ Ext w w' := by
 obtain ⟨_,a,c,rfl⟩ := hs.shape;have HS := hide hs;clear hs
 go_enter Tryz.func83,Tryz.ntmps83
 go_wp2_with fail
 go_ret;refine ⟨_,rfl,⟨110,_,rfl,fun w => by kernel_rfl, ?_⟩, ?_⟩
 ·intro w' e';refine within1_any L lo hi z (.slice a L.length c) _ _ _ _ w' ?_ ?_ ?_ ?_ ?_
  ·exact HS.out.ext (Ext.trans ((((Below.alloc (Below.refl _ w) (Nat.le_refl _) _).alloc (by simp) _).alloc (by simp; omega) _).alloc (by simp; omega) _) e')
  ·exact (e'.cell (p := ⟨_,0,none⟩) (by first | (simp; done) | (simp; omega))).trans (by go_simp)
  ·exact (e'.cell (p := ⟨_,0,none⟩) (by first | (simp; done) | (simp; omega))).trans (by go_simp)
  ·exact (e'.cell (p := ⟨_,0,none⟩) (by first | (simp; done) | (simp; omega))).trans (by go_simp)
  ·exact (e'.cell (p := ⟨_,0,none⟩) (by first | (simp; done) | (simp; omega))).trans (by go_simp)
 ·exact ((((Below.alloc (Below.refl _ w) (Nat.le_refl _) _).alloc (by simp) _).alloc (by simp; omega) _).alloc (by simp; omega) _)
theorem first_any (Z : List Int) (a : Option Addr) (n c : Nat) (w : World) (hn : Z.length = n) (hl : n <= 1000) (hs : ∀ i (hi : i < Z.length),∃ b off u,a = some ⟨b,off,none⟩ /\ b < w.heap.size /\ w.cell? ⟨b,off + i,none⟩ = some u /\ Asks w u Z[i]) :
  Calls Tryz.prog 78 #[.slice a n c] w fun e w' => e = .returned (.int .i64 ((Z.find? (· != 0)).getD 0)) /\ Ext w w' := by
 subst hn;have HS := hide hs;clear hs;have hlz : (Z.length : Int) <= 1000 := by omega
 go_enter Tryz.func78,Tryz.ntmps78
 go_wp2_with fail
 go_loopw [8] (fun i wr => ∃ k : Nat,k <= Z.length /\ i = .int .i64 k /\ (Z.find? (· != 0)).getD 0 = ((Z.drop k).find? (· != 0)).getD 0 /\ Ext w wr) (fun i _ => Z.length - (intOf i).toNat)
 case atStart => exact ⟨0,by omega,rfl,by simp,zb⟩
 case round =>
  obtain ⟨k,hk,rfl,hok,hext⟩ := hrel;by_cases hlt : k < Z.length
  ·obtain ⟨b,off,u,rfl,hbb,hc,hask⟩ := HS.out k hlt;obtain ⟨j,caps,rfl,hen,hcall⟩ := hask.ext hext;have hc' := (hext.cell (p := ⟨b,off + k,none⟩) hbb).trans hc;obtain ⟨x,hx⟩ : ∃ x,Z[k] = x := ⟨_,rfl⟩;have hd : Z.drop k = x :: Z.drop (k + 1) := (by rw [<- hx]; exact List.drop_eq_getElem_cons hlt);rw [hd] at hok;rw [hx] at hcall;have HCALL := hide (hcall _ zb);have HOK := hide hok;clear hcall hok hask hd hx hc;by_cases hx0 : x = 0
   ·have hne : (x != 0) = false := by simp [hx0]
    go_wp2_with (go_at_fn j; refine HCALL.out.mono ?_; rintro e w7 ⟨rfl,E7⟩)
    go_roundw
    case rel =>
     refine ⟨k + 1,hlt,by go_num, ?_,Ext.trans hext E7⟩;rw [HOK.out,List.find?_cons,hne]
    case measure => simp [intOf]; omega
   ·have hne : (x != 0) = true := (by simp [hx0]);have HX := hide (show x = (Z.find? (· != 0)).getD 0 by rw [HOK.out,List.find?_cons,hne]; rfl)
    go_wp2_with (go_at_fn j; refine HCALL.out.mono ?_; rintro e w7 ⟨rfl,E7⟩)
    go_ret;exact ⟨ret_int HX.out,Ext.trans hext E7⟩
  ·obtain rfl : k = Z.length := (by omega);have HOK := hide hok;clear hok;go_wp2;go_ret;exact ⟨ret_int (by rw [HOK.out]; simp),hext⟩
end Go.Proofs.YtoaiakhnnfbkdaaGreatDoor
