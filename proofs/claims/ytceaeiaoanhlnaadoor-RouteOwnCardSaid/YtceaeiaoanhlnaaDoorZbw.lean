/- Merged texts (MtC, MtD, RtA, RtB). -/
import Derived.Shelf.Strings.Count
import Derived.Test.YtceaeiaoanhlnaaDoorZmhw
import Derived.Deep.Cut
import Derived.Test.YtceaeiaoanhlnaaDoorZaw
namespace Go.Proofs
open Go.Shelf
def Tryd.lCount_ren : Go.Shelf.Ren := ⟨fun | 138 => 104 | 195 => 127 | 218 => 128 | 143 => 112 | 219 => 131 | 217 => 139 | 225 => 140 | 224 => 141 | 267 => 142 | 266 => 144 | 314 => 145 | n => n, fun | 9 => 9 | 3 => 3 | 4 => 4 | 5 => 5 | 0 => 0 | 46 => 132 | 146 => 201 | 51 => 182 | n => n, fun | 1 => 2 | n => n⟩
theorem Tryd.lCount : Go.Proofs.Lays.n138 Tryd.prog Tryd.lCount_ren := {
  mixed := by kernel_rfl
  f138 := Tryd.func104.trans (congrArg some (by kernel_rfl))
  f143 := Tryd.func112.trans (congrArg some (by kernel_rfl))
  f195 := Tryd.func127.trans (congrArg some (by kernel_rfl))
  f217 := Tryd.func139.trans (congrArg some (by kernel_rfl))
  f218 := Tryd.func128.trans (congrArg some (by kernel_rfl))
  f219 := Tryd.func131.trans (congrArg some (by kernel_rfl))
  f224 := Tryd.func141.trans (congrArg some (by kernel_rfl))
  f225 := Tryd.func140.trans (congrArg some (by kernel_rfl))
  f266 := Tryd.func144.trans (congrArg some (by kernel_rfl))
  f267 := Tryd.func142.trans (congrArg some (by kernel_rfl))
  f314 := Tryd.func145.trans (congrArg some (by kernel_rfl))
  t0 := Tryd.underlying0
  a0 := Tryd.isAgg0
  z0 := Tryd.sizeOf0
  v0 := Tryd.zeroValue0
  t3 := Tryd.underlying3
  a3 := Tryd.isAgg3
  z3 := Tryd.sizeOf3
  v3 := Tryd.zeroValue3
  t4 := Tryd.underlying4
  a4 := Tryd.isAgg4
  z4 := Tryd.sizeOf4
  v4 := Tryd.zeroValue4
  t5 := Tryd.underlying5
  a5 := Tryd.isAgg5
  z5 := Tryd.sizeOf5
  v5 := Tryd.zeroValue5
  t9 := Tryd.underlying9
  a9 := Tryd.isAgg9
  z9 := Tryd.sizeOf9
  v9 := Tryd.zeroValue9
  t46 := Tryd.underlying132
  a46 := Tryd.isAgg132
  z46 := Tryd.sizeOf132
  v46 := Tryd.zeroValue132
  t51 := Tryd.underlying182
  a51 := Tryd.isAgg182
  z51 := Tryd.sizeOf182
  v51 := Tryd.zeroValue182
  t146 := Tryd.underlying201
  a146 := Tryd.isAgg201
  z146 := Tryd.sizeOf201
  v146 := Tryd.zeroValue201
  g1 := by kernel_rfl }
def Tryd.lCmpI_ren : Go.Shelf.Ren := ⟨fun | 122 => 80 | 215 => 105 | n => n, fun | 3 => 3 | 4 => 4 | n => n, fun | n => n⟩
theorem Tryd.lCmpI : Go.Proofs.Lays.n122 Tryd.prog Tryd.lCmpI_ren := {
  mixed := by kernel_rfl
  f122 := Tryd.func80.trans (congrArg some (by kernel_rfl))
  f215 := Tryd.func105.trans (congrArg some (by kernel_rfl))
  t3 := Tryd.underlying3
  a3 := Tryd.isAgg3
  z3 := Tryd.sizeOf3
  v3 := Tryd.zeroValue3
  t4 := Tryd.underlying4
  a4 := Tryd.isAgg4
  z4 := Tryd.sizeOf4
  v4 := Tryd.zeroValue4 }
end Go.Proofs
namespace Go.Proofs.YtceaeiaoanhlnaaDoor
open Go.ChangeShapes Go.WideShapes Go.ChangeAt Go.RowKit Go.Lib Go.Shelf
def rk0 (ex : Bool) : Int := if ex then 1 else 0
def rk1 (p : List UInt8) : Int := if p = [47] then 0 else (Lib.countByte p 47 : Int)
set_option maxRecDepth 100000 in
set_option maxHeartbeats 2000000 in
theorem rank_any (mp : ByteArray) (ex : Bool) (a : Option Addr) (n c : Nat) (w : World) :
  Calls Tryd.prog 79 #[.agg #[.string mp, .bool ex, .slice a n c]] w fun e w' => e = .returned (.agg #[.int .i64 (rk0 ex), .int .i64 (rk1 (bl mp)), .int .i64 n]) ∧ Ext w w' := by
 have hcnt : ∀ u : World, Calls Tryd.prog 104 #[.string mp, .string ⟨#[47]⟩] u fun e w' => e = .returned (.int .i64 (Lib.countByte mp.data.toList 47)) ∧ u = w' := fun u => (Any.strings_Count_one Tryd.lCount mp 47 u).mono (fun _ _ h => ⟨h.1, h.2.symm⟩)
 obtain ⟨q, hq⟩ : ∃ q : Nat, Lib.countByte mp.data.toList 47 = q := ⟨_, rfl⟩
 have hr : rk1 (bl mp) = if bl mp = [47] then 0 else (q : Int) := by unfold rk1; rw [← hq]; rfl
 simp only [hq] at hcnt
 have HCNT := hide hcnt
 have HR := hide hr
 have hcx : ∀ X, Ext ((w.alloc (.cells #[.string mp, .bool ex, .slice a n c] 33)).alloc (.cells #[.int .i64 0, .int .i64 0, .int .i64 0] 143)) X → X.cell? ⟨w.heap.size, 0, none⟩ = some (.string mp) ∧ X.cell? ⟨w.heap.size, 2, none⟩ = some (.slice a n c) := fun X hX => ⟨(hX.cell (p := ⟨w.heap.size, 0, none⟩) (by simp; omega)).trans (by go_simp), (hX.cell (p := ⟨w.heap.size, 2, none⟩) (by simp; omega)).trans (by go_simp)⟩
 have HCX := hide hcx
 clear hcnt hr hcx hq
 have hfin : ∀ (i q : Int), rk1 (bl mp) = q → i = rk0 ex → ∀ w9, Ext w w9 → (fun (e : Ending) (w' : World) => e = .returned (.agg #[.int .i64 (rk0 ex), .int .i64 (rk1 (bl mp)), .int .i64 n]) ∧ Ext w w') (.returned (.agg #[.int .i64 i, .int .i64 q, .int .i64 n])) w9 := by
  rintro i q rfl rfl w9 h9
  exact ⟨rfl, h9⟩
 have HF := hide hfin
 clear hfin
 by_cases hp : bl mp = [47]
 ·have hb : (mp.toList == [47]) = true := by rw [toL]; show (bl mp == [47]) = true; simpa using hp
  have hr := HR.out
  rw [if_pos hp] at hr
  have HR := hide hr
  clear hr hp
  cases ex with
  | true =>
   go_enter Tryd.func79, Tryd.ntmps79
   go_wp2_with fail
   go_region_held3 (fun w' => w'.cell? ⟨w.heap.size, 0, none⟩ = some (.string mp) ∧ w'.cell? ⟨w.heap.size, 2, none⟩ = some (.slice a n c))
    (first
     | exact HCX.out _ (Below.refl _ _)
     | exact HCX.out _ (Below.drew (Below.refl _ _))
     | exact HCX.out _ (Below.drew ((Below.refl _ _).alloc (Nat.le_refl _) _))
     | exact HCX.out _ (Below.drew (((Below.refl _ _).alloc (Nat.le_refl _) _).setCell (Nat.le_refl _) _)))
    (first | (go_at_call 104; refine (HCNT.out _).mono ?_; rintro e w8 ⟨rfl, rfl⟩))
   all_goals go_wp2_with fail
   all_goals
    refine bodyPost_ret (v := .agg #[.int .i64 1, .int .i64 0, .int .i64 n]) (by simp [results, Tryd.results79, go_sem]) rfl (HF.out 1 0 HR.out rfl _ ?_)
    exact ((((Below.refl _ _).alloc (Nat.le_refl _) _).alloc (by simp) _).alloc (by simp; omega) _).drew
  | false =>
   go_enter Tryd.func79, Tryd.ntmps79
   go_wp2_with fail
   go_region_held3 (fun w' => w'.cell? ⟨w.heap.size, 0, none⟩ = some (.string mp) ∧ w'.cell? ⟨w.heap.size, 2, none⟩ = some (.slice a n c))
    (first
     | exact HCX.out _ (Below.refl _ _)
     | exact HCX.out _ (Below.drew (Below.refl _ _))
     | exact HCX.out _ (Below.drew ((Below.refl _ _).alloc (Nat.le_refl _) _))
     | exact HCX.out _ (Below.drew (((Below.refl _ _).alloc (Nat.le_refl _) _).setCell (Nat.le_refl _) _)))
    (first | (go_at_call 104; refine (HCNT.out _).mono ?_; rintro e w8 ⟨rfl, rfl⟩))
   all_goals go_wp2_with fail
   all_goals
    refine bodyPost_ret (v := .agg #[.int .i64 0, .int .i64 0, .int .i64 n]) (by simp [results, Tryd.results79, go_sem]) rfl (HF.out 0 0 HR.out rfl _ ?_)
    exact ((((Below.refl _ _).alloc (Nat.le_refl _) _).alloc (by simp) _).alloc (by simp; omega) _).drew
 ·have hb : (mp.toList == [47]) = false := by rw [toL]; show (bl mp == [47]) = false; simpa using hp
  have hr := HR.out
  rw [if_neg hp] at hr
  have HR := hide hr
  clear hr hp
  cases ex with
  | true =>
   go_enter Tryd.func79, Tryd.ntmps79
   go_wp2_with fail
   go_region_held3 (fun w' => w'.cell? ⟨w.heap.size, 0, none⟩ = some (.string mp) ∧ w'.cell? ⟨w.heap.size, 2, none⟩ = some (.slice a n c))
    (first
     | exact HCX.out _ (Below.refl _ _)
     | exact HCX.out _ (Below.drew (Below.refl _ _))
     | exact HCX.out _ (Below.drew ((Below.refl _ _).alloc (Nat.le_refl _) _))
     | exact HCX.out _ (Below.drew (((Below.refl _ _).alloc (Nat.le_refl _) _).setCell (Nat.le_refl _) _)))
    (first | (go_at_call 104; refine (HCNT.out _).mono ?_; rintro e w8 ⟨rfl, rfl⟩))
   all_goals go_wp2_with fail
   all_goals
    refine bodyPost_ret (v := .agg #[.int .i64 1, .int .i64 q, .int .i64 n]) (by simp [results, Tryd.results79, go_sem]) rfl (HF.out 1 q HR.out rfl _ ?_)
    exact ((((Below.refl _ _).alloc (Nat.le_refl _) _).alloc (by simp) _).alloc (by simp; omega) _).drew
  | false =>
   go_enter Tryd.func79, Tryd.ntmps79
   go_wp2_with fail
   go_region_held3 (fun w' => w'.cell? ⟨w.heap.size, 0, none⟩ = some (.string mp) ∧ w'.cell? ⟨w.heap.size, 2, none⟩ = some (.slice a n c))
    (first
     | exact HCX.out _ (Below.refl _ _)
     | exact HCX.out _ (Below.drew (Below.refl _ _))
     | exact HCX.out _ (Below.drew ((Below.refl _ _).alloc (Nat.le_refl _) _))
     | exact HCX.out _ (Below.drew (((Below.refl _ _).alloc (Nat.le_refl _) _).setCell (Nat.le_refl _) _)))
    (first | (go_at_call 104; refine (HCNT.out _).mono ?_; rintro e w8 ⟨rfl, rfl⟩))
   all_goals go_wp2_with fail
   all_goals
    refine bodyPost_ret (v := .agg #[.int .i64 0, .int .i64 q, .int .i64 n]) (by simp [results, Tryd.results79, go_sem]) rfl (HF.out 0 q HR.out rfl _ ?_)
    exact ((((Below.refl _ _).alloc (Nat.le_refl _) _).alloc (by simp) _).alloc (by simp; omega) _).drew
end Go.Proofs.YtceaeiaoanhlnaaDoor
namespace Go.Proofs.YtceaeiaoanhlnaaDoor
open Go.ChangeShapes Go.WideShapes Go.ChangeAt Go.RowKit Go.Lib Go.Shelf
/-- what match.Cmp tells of two threes -/
def cmp3 (a b : Int × Int × Int) : Int :=
 if a.1 < b.1 then 1 else if b.1 < a.1 then -1 else
 if a.2.1 < b.2.1 then 1 else if b.2.1 < a.2.1 then -1 else
 if a.2.2 < b.2.2 then 1 else if b.2.2 < a.2.2 then -1 else 0
def rk3 (mp : ByteArray) (ex : Bool) (n : Nat) : Int × Int × Int := (rk0 ex, rk1 (bl mp), n)
def cmpI (a b : Int) : Int := if a < b then -1 else if b < a then 1 else 0
theorem metK {K : Act → World → Prop} {a b : Act} {w : World} (h : K b w) (e : b = a) : K a w := e ▸ h
/-- a fresh block of cells, that a pointer shows -/
def ArrB (T : TypeId) (W w : World) (v : Value) (c : Array Value) : Prop := ∃ g, v = .pointer (some ⟨g, 0, none⟩) ∧ W.heap.size ≤ g ∧ g < w.heap.size ∧ w.heap[g]? = some (.cells c T)
theorem ArrB.ext {T : TypeId} {W w w' : World} {v : Value} {c : Array Value} (h : ArrB T W w v c) (e : Ext w w') : ArrB T W w' v c := by
 obtain ⟨g, h1, h2, h3, h4⟩ := h
 exact ⟨g, h1, h2, Nat.lt_of_lt_of_le h3 e.size, (e.block g h3).trans h4⟩
theorem ArrB.new {T : TypeId} {W w : World} (c : Array Value) (e : Ext W w) : ArrB T W (w.alloc (.cells c T)) (.pointer (some ⟨w.heap.size, 0, none⟩)) c :=
 ⟨w.heap.size, rfl, e.size, by simp, by show (w.heap.push _)[w.heap.size]? = _; simp⟩
theorem ArrB.cell {T : TypeId} {w : World} {g : Nat} {c : Array Value} (h : w.heap[g]? = some (.cells c T)) (j : Nat) (u : Value) (hu : c[j]? = some u) : w.cell? ⟨g, j, none⟩ = some u := by
 rw [World.cell?]
 simp only [h]
 exact hu
theorem ArrB.frozen {T : TypeId} {w : World} {g : Nat} {c : Array Value} (h : w.heap[g]? = some (.cells c T)) (j : Nat) : w.frozen? ⟨g, j, none⟩ = false := by
 rw [World.frozen?]
 simp [h]
theorem ArrB.set {T : TypeId} {w : World} {g : Nat} {c : Array Value} (h : w.heap[g]? = some (.cells c T)) (j : Nat) (u : Value) : (w.setCell ⟨g, j, none⟩ u).heap[g]? = some (.cells (c.setIfInBounds j u) T) := by
 simp only [World.setCell, Array.getElem?_modify, h]
 simp
theorem ArrB.set_other {T : TypeId} {w : World} {g k : Nat} {c : Array Value} (h : w.heap[k]? = some (.cells c T)) (j : Nat) (u : Value) (hne : g ≠ k) : (w.setCell ⟨g, j, none⟩ u).heap[k]? = some (.cells c T) := by
 simp only [World.setCell, Array.getElem?_modify, h]
 simp [hne]
theorem frame28 (x : Nat → Value) : frameOf 28 x = #[x 0, x 1, x 2, x 3, x 4, x 5, x 6, x 7, x 8, x 9, x 10, x 11, x 12, x 13, x 14, x 15, x 16, x 17, x 18, x 19, x 20, x 21, x 22, x 23, x 24, x 25, x 26, x 27] := rfl
set_option maxRecDepth 100000 in
set_option maxHeartbeats 2000000 in
theorem cmp_any (mp mq : ByteArray) (ex ey : Bool) (a b : Option Addr) (n c n2 c2 : Nat) (w : World) :
  Calls Tryd.prog 49 #[.agg #[.string mp, .bool ex, .slice a n c], .agg #[.string mq, .bool ey, .slice b n2 c2]] w fun e w' => e = .returned (.int .i64 (cmp3 (rk3 mp ex n) (rk3 mq ey n2))) ∧ Ext w w' := by
 have h1 : ∀ X : World, Calls Tryd.prog 79 #[.agg #[.string mp, .bool ex, .slice a n c]] X fun e w' => e = .returned (.agg #[.int .i64 (rk0 ex), .int .i64 (rk1 (bl mp)), .int .i64 n]) ∧ Ext X w' := rank_any mp ex a n c
 have h2 : ∀ X : World, Calls Tryd.prog 79 #[.agg #[.string mq, .bool ey, .slice b n2 c2]] X fun e w' => e = .returned (.agg #[.int .i64 (rk0 ey), .int .i64 (rk1 (bl mq)), .int .i64 n2]) ∧ Ext X w' := rank_any mq ey b n2 c2
 unfold rk3
 obtain ⟨x0, hx0⟩ : ∃ x, rk0 ex = x := ⟨_, rfl⟩
 obtain ⟨x1, hx1⟩ : ∃ x, rk1 (bl mp) = x := ⟨_, rfl⟩
 obtain ⟨x2, hx2⟩ : ∃ x : Int, n = x := ⟨_, rfl⟩
 obtain ⟨y0, hy0⟩ : ∃ x, rk0 ey = x := ⟨_, rfl⟩
 obtain ⟨y1, hy1⟩ : ∃ x, rk1 (bl mq) = x := ⟨_, rfl⟩
 obtain ⟨y2, hy2⟩ : ∃ x : Int, n2 = x := ⟨_, rfl⟩
 simp only [hx0, hx1, hx2, hy0, hy1, hy2] at h1 h2 ⊢
 have H1 := hide h1
 have H2 := hide h2
 clear h1 h2 hx0 hx1 hx2 hy0 hy1 hy2
 go_enter Tryd.func49, Tryd.ntmps49
 go_wp2_with fail
 go_cut [5, 6] from 14 (fun s5 s6 w' => ∃ g k, s5 = .pointer (some ⟨g, 0, none⟩) ∧ s6 = .pointer (some ⟨k, 0, none⟩) ∧ Ext w w' ∧ w'.cell? ⟨g, 0, none⟩ = some (.int .i64 x0) ∧ w'.cell? ⟨g, 1, none⟩ = some (.int .i64 x1) ∧ w'.cell? ⟨g, 2, none⟩ = some (.int .i64 x2) ∧ w'.cell? ⟨k, 0, none⟩ = some (.int .i64 y0) ∧ w'.cell? ⟨k, 1, none⟩ = some (.int .i64 y1) ∧ w'.cell? ⟨k, 2, none⟩ = some (.int .i64 y2))
 case first =>
  have hcx : ∀ X, Ext ((w.alloc (.cells #[.string mp, .bool ex, .slice a n c] 33)).alloc (.cells #[.string mq, .bool ey, .slice b n2 c2] 33)) X → X.cell? ⟨w.heap.size, 0, none⟩ = some (.string mp) ∧ X.cell? ⟨w.heap.size, 1, none⟩ = some (.bool ex) ∧ X.cell? ⟨w.heap.size, 2, none⟩ = some (.slice a n c) ∧ X.cell? ⟨w.heap.size + 1, 0, none⟩ = some (.string mq) ∧ X.cell? ⟨w.heap.size + 1, 1, none⟩ = some (.bool ey) ∧ X.cell? ⟨w.heap.size + 1, 2, none⟩ = some (.slice b n2 c2) :=
   fun X hX => ⟨(hX.cell (p := ⟨w.heap.size, 0, none⟩) (by simp; omega)).trans (by go_simp), (hX.cell (p := ⟨w.heap.size, 1, none⟩) (by simp; omega)).trans (by go_simp), (hX.cell (p := ⟨w.heap.size, 2, none⟩) (by simp; omega)).trans (by go_simp), (hX.cell (p := ⟨w.heap.size + 1, 0, none⟩) (by simp)).trans (by go_simp), (hX.cell (p := ⟨w.heap.size + 1, 1, none⟩) (by simp)).trans (by go_simp), (hX.cell (p := ⟨w.heap.size + 1, 2, none⟩) (by simp)).trans (by go_simp)⟩
  have HCX := hide hcx
  have HE0 := hide ((((Below.refl _ w).alloc (Nat.le_refl _) _).alloc (by simp) _) : Ext w ((w.alloc (.cells #[.string mp, .bool ex, .slice a n c] 33)).alloc (.cells #[.string mq, .bool ey, .slice b n2 c2] 33)))
  generalize hW : ((w.alloc (.cells #[.string mp, .bool ex, .slice a n c] 33)).alloc (.cells #[.string mq, .bool ey, .slice b n2 c2] 33)) = W at *
  clear hcx hW
  refine wp_region_inv 28 (fun L x w' => Ext W w' ∧ (x 0 = .agg #[.string mp, .bool ex, .slice a n c] ∧ x 1 = .agg #[.string mq, .bool ey, .slice b n2 c2] ∧ x 2 = .pointer (some ⟨w.heap.size, 0, none⟩) ∧ x 3 = .pointer (some ⟨w.heap.size + 1, 0, none⟩) ∧ x 4 = .int .i64 0 ∧ x 7 = undef ∧ x 8 = undef ∧ x 9 = undef) ∧
   (L 0 = true → x 10 = .agg #[.string mp, .bool ex, .slice a n c]) ∧ (L 1 = true → x 11 = .agg #[.int .i64 x0, .int .i64 x1, .int .i64 x2]) ∧ (L 2 = true → x 12 = .agg #[.string mq, .bool ey, .slice b n2 c2]) ∧ (L 3 = true → x 13 = .agg #[.int .i64 y0, .int .i64 y1, .int .i64 y2]) ∧
   (L 4 = true → ArrB 143 W w' (x 5) (if L 6 = true then #[.int .i64 x0, .int .i64 x1, .int .i64 x2] else #[.int .i64 0, .int .i64 0, .int .i64 0])) ∧
   (L 5 = true → ArrB 143 W w' (x 6) (if L 7 = true then #[.int .i64 y0, .int .i64 y1, .int .i64 y2] else #[.int .i64 0, .int .i64 0, .int .i64 0])) ∧
   (L 4 = true → L 5 = true → x 5 ≠ x 6) ∧ (L 6 = true → L 4 = true) ∧ (L 7 = true → L 5 = true)) (by kernel_rfl) rfl (by kernel_rfl) ?_ ?_ ?_
  ·refine ⟨(Below.refl _ _).drew, ⟨rfl, rfl, rfl, rfl, rfl, rfl, rfl, rfl⟩, ?_⟩
   simp
  ·intro i o ho L x w' hJ hLi hLb K hK
   obtain ⟨hE, ⟨f0, f1, f2, f3, f4, f7, f8, f9⟩, j0, j1, j2, j3, j4, j5, j45, j6, j7⟩ := hJ
   have hi8 : i < 8 := (Array.getElem?_eq_some_iff.1 ho).1
   have HF := hide (⟨f0, f1, f2, f3, f4, f7, f8, f9⟩ : _ ∧ _ ∧ _ ∧ _ ∧ _ ∧ _ ∧ _ ∧ _)
   have HJ0 := hide j0
   have HJ1 := hide j1
   have HJ2 := hide j2
   have HJ3 := hide j3
   have HJ4 := hide j4
   have HJ5 := hide j5
   have HJ45 := hide j45
   have HJ6 := hide j6
   have HJ7 := hide j7
   clear j0 j1 j2 j3 j4 j5 j45 j6 j7
   rcases (by omega : i = 0 ∨ i = 1 ∨ i = 2 ∨ i = 3 ∨ i = 4 ∨ i = 5 ∨ i = 6 ∨ i = 7) with rfl | rfl | rfl | rfl | rfl | rfl | rfl | rfl
   ·obtain ⟨d1, d2, d3, -, -, -⟩ := HCX.out _ hE
    obtain rfl := Option.some.inj ho
    unfold wpOp
    simp only [ho]
    rw [if_pos (by rfl)]
    left
    rw [frame28]
    go_simp
    refine metK (hK.out (.agg #[.string mp, .bool ex, .slice a n c]) _ ?_) ?_
    ·refine ⟨hE, by simpa [putX] using HF.out, by simp [putX], by simpa [putX] using HJ1.out, by simpa [putX] using HJ2.out, by simpa [putX] using HJ3.out, by simpa [putX] using HJ4.out, by simpa [putX] using HJ5.out, by simpa [putX] using HJ45.out, by simpa [putX] using HJ6.out, by simpa [putX] using HJ7.out⟩
    ·simp [frame28, Act.put, *]
   ·have e10 := HJ0.out (hLb 0 (by decide))
    obtain rfl := Option.some.inj ho
    unfold wpOp
    simp only [ho]
    rw [if_pos (by rfl)]
    left
    rw [frame28]
    go_simp
    refine (H1.out _).mono ?_
    rintro e w8 ⟨rfl, E8⟩
    refine metK (hK.out (.agg #[.int .i64 x0, .int .i64 x1, .int .i64 x2]) _ ?_) ?_
    ·refine ⟨hE.trans E8, by simpa [putX] using HF.out, by simpa [putX] using HJ0.out, by simp [putX], by simpa [putX] using HJ2.out, by simpa [putX] using HJ3.out, by simpa [putX] using fun h => (HJ4.out h).ext E8, by simpa [putX] using fun h => (HJ5.out h).ext E8, by simpa [putX] using HJ45.out, by simpa [putX] using HJ6.out, by simpa [putX] using HJ7.out⟩
    ·simp [frame28, Act.put, *]
   ·obtain ⟨-, -, -, d1, d2, d3⟩ := HCX.out _ hE
    obtain rfl := Option.some.inj ho
    unfold wpOp
    simp only [ho]
    rw [if_pos (by rfl)]
    left
    rw [frame28]
    go_simp
    refine metK (hK.out (.agg #[.string mq, .bool ey, .slice b n2 c2]) _ ?_) ?_
    ·refine ⟨hE, by simpa [putX] using HF.out, by simpa [putX] using HJ0.out, by simpa [putX] using HJ1.out, by simp [putX], by simpa [putX] using HJ3.out, by simpa [putX] using HJ4.out, by simpa [putX] using HJ5.out, by simpa [putX] using HJ45.out, by simpa [putX] using HJ6.out, by simpa [putX] using HJ7.out⟩
    ·simp [frame28, Act.put, *]
   ·have e12 := HJ2.out (hLb 2 (by decide))
    obtain rfl := Option.some.inj ho
    unfold wpOp
    simp only [ho]
    rw [if_pos (by rfl)]
    left
    rw [frame28]
    go_simp
    refine (H2.out _).mono ?_
    rintro e w8 ⟨rfl, E8⟩
    refine metK (hK.out (.agg #[.int .i64 y0, .int .i64 y1, .int .i64 y2]) _ ?_) ?_
    ·refine ⟨hE.trans E8, by simpa [putX] using HF.out, by simpa [putX] using HJ0.out, by simpa [putX] using HJ1.out, by simpa [putX] using HJ2.out, by simp [putX], by simpa [putX] using fun h => (HJ4.out h).ext E8, by simpa [putX] using fun h => (HJ5.out h).ext E8, by simpa [putX] using HJ45.out, by simpa [putX] using HJ6.out, by simpa [putX] using HJ7.out⟩
    ·simp [frame28, Act.put, *]
   ·have hL6 : L 6 = false := by
     cases h : L 6 with
     | false => rfl
     | true => rw [HJ6.out h] at hLi; cases hLi
    obtain rfl := Option.some.inj ho
    unfold wpOp
    simp only [ho]
    rw [if_pos (by rfl)]
    left
    rw [frame28]
    go_simp
    have hA := ArrB.new (T := 143) #[.int .i64 0, .int .i64 0, .int .i64 0] hE
    have eA : Ext w' (w'.alloc (.cells #[.int .i64 0, .int .i64 0, .int .i64 0] 143)) := (Below.refl _ _).alloc (Nat.le_refl _) _
    refine metK (hK.out (.pointer (some ⟨w'.heap.size, 0, none⟩)) _ ?_) ?_
    ·refine ⟨hE.trans eA, by simpa [putX] using HF.out, by simpa [putX] using HJ0.out, by simpa [putX] using HJ1.out, by simpa [putX] using HJ2.out, by simpa [putX] using HJ3.out, fun _ => by simpa [putX, hL6] using hA, by simpa [putX] using fun h => (HJ5.out h).ext eA, ?_, fun _ => by simp, by simpa [putX] using HJ7.out⟩
     intro _ h5
     obtain ⟨g, hg, -, hlt, -⟩ := HJ5.out (by simpa using h5)
     simp [putX, hg]
     try omega
    ·simp [frame28, Act.put, *]
   ·have hL7 : L 7 = false := by
     cases h : L 7 with
     | false => rfl
     | true => rw [HJ7.out h] at hLi; cases hLi
    obtain rfl := Option.some.inj ho
    unfold wpOp
    simp only [ho]
    rw [if_pos (by rfl)]
    left
    rw [frame28]
    go_simp
    have hA := ArrB.new (T := 143) #[.int .i64 0, .int .i64 0, .int .i64 0] hE
    have eA : Ext w' (w'.alloc (.cells #[.int .i64 0, .int .i64 0, .int .i64 0] 143)) := (Below.refl _ _).alloc (Nat.le_refl _) _
    refine metK (hK.out (.pointer (some ⟨w'.heap.size, 0, none⟩)) _ ?_) ?_
    ·refine ⟨hE.trans eA, by simpa [putX] using HF.out, by simpa [putX] using HJ0.out, by simpa [putX] using HJ1.out, by simpa [putX] using HJ2.out, by simpa [putX] using HJ3.out, by simpa [putX] using fun h => (HJ4.out h).ext eA, fun _ => by simpa [putX, hL7] using hA, ?_, by simpa [putX] using HJ6.out, fun _ => by simp⟩
     intro h4 _
     obtain ⟨g, hg, -, hlt, -⟩ := HJ4.out (by simpa using h4)
     simp [putX, hg]
     try omega
    ·simp [frame28, Act.put, *]
   ·have e11 := HJ1.out (hLb 1 (by decide))
    obtain ⟨g, e5, hg1, hg2, hg3⟩ := HJ4.out (hLb 4 (by decide))
    simp only [hLi, Bool.false_eq_true, if_false] at hg3
    have d0 := ArrB.cell hg3 0 _ rfl
    have d1 := ArrB.cell hg3 1 _ rfl
    have d2 := ArrB.cell hg3 2 _ rfl
    have z0 := ArrB.frozen hg3 0
    have z1 := ArrB.frozen hg3 1
    have z2 := ArrB.frozen hg3 2
    obtain rfl := Option.some.inj ho
    unfold wpOp
    simp only [ho]
    rw [if_pos (by rfl)]
    left
    rw [frame28]
    go_simp
    have hset := ArrB.set (ArrB.set (ArrB.set hg3 0 (.int .i64 x0)) 1 (.int .i64 x1)) 2 (.int .i64 x2)
    have hbb : Ext W (((w'.setCell ⟨g, 0, none⟩ (.int .i64 x0)).setCell ⟨g, 1, none⟩ (.int .i64 x1)).setCell ⟨g, 2, none⟩ (.int .i64 x2)) := Below.setCell (Below.setCell (Below.setCell hE hg1 _) hg1 _) hg1 _
    refine metK (hK.out undef _ ?_) ?_
    ·refine ⟨hbb, by simpa [putX] using HF.out, by simpa [putX] using HJ0.out, by simpa [putX] using HJ1.out, by simpa [putX] using HJ2.out, by simpa [putX] using HJ3.out, ?_, ?_, by simpa [putX] using HJ45.out, ?_, ?_⟩
     ·intro _
      simp only [BEq.rfl, Bool.true_or, if_true, putX]
      exact ⟨g, by simpa using e5, hg1, by simpa [World.setCell] using hg2, by simpa using hset⟩
     ·intro h5
      obtain ⟨k, e6, hk1, hk2, hk3⟩ := HJ5.out (by simpa using h5)
      have hne : g ≠ k := fun e => HJ45.out (hLb 4 (by decide)) (by simpa using h5) (by rw [e5, e6, e])
      refine ⟨k, by simpa [putX] using e6, hk1, by simpa [World.setCell] using hk2, ?_⟩
      have := ArrB.set_other (ArrB.set_other (ArrB.set_other hk3 0 (.int .i64 x0) hne) 1 (.int .i64 x1) hne) 2 (.int .i64 x2) hne
      simpa using this
     ·intro _
      simpa using hLb 4 (by decide)
     ·simpa using HJ7.out
    ·simp [frame28, Act.put, *]
   ·have e13 := HJ3.out (hLb 3 (by decide))
    obtain ⟨g, e6, hg1, hg2, hg3⟩ := HJ5.out (hLb 5 (by decide))
    simp only [hLi, Bool.false_eq_true, if_false] at hg3
    have d0 := ArrB.cell hg3 0 _ rfl
    have d1 := ArrB.cell hg3 1 _ rfl
    have d2 := ArrB.cell hg3 2 _ rfl
    have z0 := ArrB.frozen hg3 0
    have z1 := ArrB.frozen hg3 1
    have z2 := ArrB.frozen hg3 2
    obtain rfl := Option.some.inj ho
    unfold wpOp
    simp only [ho]
    rw [if_pos (by rfl)]
    left
    rw [frame28]
    go_simp
    have hset := ArrB.set (ArrB.set (ArrB.set hg3 0 (.int .i64 y0)) 1 (.int .i64 y1)) 2 (.int .i64 y2)
    have hbb : Ext W (((w'.setCell ⟨g, 0, none⟩ (.int .i64 y0)).setCell ⟨g, 1, none⟩ (.int .i64 y1)).setCell ⟨g, 2, none⟩ (.int .i64 y2)) := Below.setCell (Below.setCell (Below.setCell hE hg1 _) hg1 _) hg1 _
    refine metK (hK.out undef _ ?_) ?_
    ·refine ⟨hbb, by simpa [putX] using HF.out, by simpa [putX] using HJ0.out, by simpa [putX] using HJ1.out, by simpa [putX] using HJ2.out, by simpa [putX] using HJ3.out, ?_, ?_, by simpa [putX] using HJ45.out, ?_, ?_⟩
     ·intro h4
      obtain ⟨k, e5, hk1, hk2, hk3⟩ := HJ4.out (by simpa using h4)
      have hne : g ≠ k := fun e => HJ45.out (by simpa using h4) (hLb 5 (by decide)) (by rw [e5, e6, e])
      refine ⟨k, by simpa [putX] using e5, hk1, by simpa [World.setCell] using hk2, ?_⟩
      have := ArrB.set_other (ArrB.set_other (ArrB.set_other hk3 0 (.int .i64 y0) hne) 1 (.int .i64 y1) hne) 2 (.int .i64 y2) hne
      simpa using this
     ·intro _
      simp only [BEq.rfl, Bool.true_or, if_true, putX]
      exact ⟨g, by simpa using e6, hg1, by simpa [World.setCell] using hg2, by simpa using hset⟩
     ·simpa using HJ6.out
     ·intro _
      simpa using hLb 5 (by decide)
    ·simp [frame28, Act.put, *]
  ·intro L x w' hJ hL
   obtain ⟨hE, ⟨f0, f1, f2, f3, f4, f7, f8, f9⟩, -, -, -, -, j4, j5, -, -, -⟩ := hJ
   have l6 := hL 6 (by decide)
   have l7 := hL 7 (by decide)
   obtain ⟨g, e5, hg1, hg2, hg3⟩ := j4 (hL 4 (by decide))
   obtain ⟨k, e6, hk1, hk2, hk3⟩ := j5 (hL 5 (by decide))
   simp only [l6, l7, if_true] at hg3 hk3
   rw [frame28, f0, f1, f2, f3, f4, f7, f8, f9]
   have HR := hide (⟨g, k, e5, e6, Ext.trans HE0.out hE, ArrB.cell hg3 0 _ rfl, ArrB.cell hg3 1 _ rfl, ArrB.cell hg3 2 _ rfl, ArrB.cell hk3 0 _ rfl, ArrB.cell hk3 1 _ rfl, ArrB.cell hk3 2 _ rfl⟩ : ∃ g k, x 5 = .pointer (some ⟨g, 0, none⟩) ∧ x 6 = .pointer (some ⟨k, 0, none⟩) ∧ Ext w w' ∧ w'.cell? ⟨g, 0, none⟩ = some (.int .i64 x0) ∧ w'.cell? ⟨g, 1, none⟩ = some (.int .i64 x1) ∧ w'.cell? ⟨g, 2, none⟩ = some (.int .i64 x2) ∧ w'.cell? ⟨k, 0, none⟩ = some (.int .i64 y0) ∧ w'.cell? ⟨k, 1, none⟩ = some (.int .i64 y1) ∧ w'.cell? ⟨k, 2, none⟩ = some (.int .i64 y2))
   clear hg3 hk3 e5 e6 f0 f1 f2 f3 f4 f7 f8 f9 l6 l7 hL j4 j5
   go_wp2_with fail
   go_meet
   exact HR.out
 case rest =>
  obtain ⟨g, k, rfl, rfl, hE, hg0, hg1, hg2, hk0, hk1, hk2⟩ := hcut
  have hfin : ∀ z, z = cmp3 (x0, x1, x2) (y0, y1, y2) → ∀ w9, Ext wc w9 → (Ending.returned (.int .i64 z) = .returned (.int .i64 (cmp3 (x0, x1, x2) (y0, y1, y2))) ∧ Ext w w9) := fun z hz w9 h9 => ⟨by rw [hz], hE.trans h9⟩
  have HF := hide hfin
  have i0 : ∀ w : World, (Instr.index 143 (.agg #[.int .i64 x0, .int .i64 x1, .int .i64 x2]) (.int .i64 0)).run Tryd.prog w = .ok (.int .i64 x0) w := fun _ => by kernel_rfl
  have i1 : ∀ w : World, (Instr.index 143 (.agg #[.int .i64 x0, .int .i64 x1, .int .i64 x2]) (.int .i64 1)).run Tryd.prog w = .ok (.int .i64 x1) w := fun _ => by kernel_rfl
  have i2 : ∀ w : World, (Instr.index 143 (.agg #[.int .i64 x0, .int .i64 x1, .int .i64 x2]) (.int .i64 2)).run Tryd.prog w = .ok (.int .i64 x2) w := fun _ => by kernel_rfl
  have hcmp : ∀ (p q : Int) (X : World), Calls Tryd.prog 80 #[.int .i64 p, .int .i64 q] X fun e w' => e = .returned (.int .i64 (cmpI p q)) ∧ w' = X := Any.cmp_Compare_int Tryd.lCmpI
  have HC := hide hcmp
  clear hfin hcmp hE
  go_wp2_with fail
  go_loopw [15] (fun i wr => wr = wc ∧ ((i = .int .i64 0) ∨ (i = .int .i64 1 ∧ x0 = y0) ∨ (i = .int .i64 2 ∧ x0 = y0 ∧ x1 = y1) ∨ (i = .int .i64 3 ∧ x0 = y0 ∧ x1 = y1 ∧ x2 = y2))) (fun i _ => 3 - (intOf i).toNat)
  case atStart => exact ⟨rfl, .inl rfl⟩
  case round =>
   obtain ⟨rfl, h⟩ := hrel
   rcases h with rfl | ⟨rfl, e0⟩ | ⟨rfl, e0, e1⟩ | ⟨rfl, e0, e1, e2⟩
   ·rcases Int.lt_trichotomy x0 y0 with hc | hEQ | hc
    ·have hv : cmpI y0 x0 = 1 := by unfold cmpI; rw [if_neg (by omega), if_pos hc]
     have HK := hide (hc :  x0 < y0)
     clear hc
     go_wp2_with (go_at_call 80; refine (HC.out _ _ _).mono ?_; rintro e w7 ⟨rfl, rfl⟩; rw [hv])
     go_ret
     refine HF.out _ ?_ _ (Below.refl _ _)
     have hc := HK.out
     unfold cmp3
     simp
     omega
    ·have hv : cmpI y0 x0 = 0 := by unfold cmpI; rw [if_neg (by omega), if_neg (by omega)]
     have HK := hide (hEQ :  x0 = y0)
     clear hEQ
     go_wp2_with (go_at_call 80; refine (HC.out _ _ _).mono ?_; rintro e w7 ⟨rfl, rfl⟩; rw [hv])
     go_roundw
     case rel =>
      have hEQ := HK.out
      exact ⟨trivial, .inr (.inl ⟨rfl, hEQ⟩)⟩
     case measure => simp [intOf]
    ·have hv : cmpI y0 x0 = -1 := by unfold cmpI; rw [if_pos (by omega)]
     have HK := hide (hc :  y0 < x0)
     clear hc
     go_wp2_with (go_at_call 80; refine (HC.out _ _ _).mono ?_; rintro e w7 ⟨rfl, rfl⟩; rw [hv])
     go_ret
     refine HF.out _ ?_ _ (Below.refl _ _)
     have hc := HK.out
     unfold cmp3
     simp
     omega
   ·rcases Int.lt_trichotomy x1 y1 with hc | hEQ | hc
    ·have hv : cmpI y1 x1 = 1 := by unfold cmpI; rw [if_neg (by omega), if_pos hc]
     have HK := hide (⟨e0, hc⟩ : x0 = y0 ∧  x1 < y1)
     clear e0 hc
     go_wp2_with (go_at_call 80; refine (HC.out _ _ _).mono ?_; rintro e w7 ⟨rfl, rfl⟩; rw [hv])
     go_ret
     refine HF.out _ ?_ _ (Below.refl _ _)
     obtain ⟨rfl, hc⟩ := HK.out
     unfold cmp3
     simp
     omega
    ·have hv : cmpI y1 x1 = 0 := by unfold cmpI; rw [if_neg (by omega), if_neg (by omega)]
     have HK := hide (⟨e0, hEQ⟩ : x0 = y0 ∧  x1 = y1)
     clear e0 hEQ
     go_wp2_with (go_at_call 80; refine (HC.out _ _ _).mono ?_; rintro e w7 ⟨rfl, rfl⟩; rw [hv])
     go_roundw
     case rel =>
      obtain ⟨e0, hEQ⟩ := HK.out
      exact ⟨trivial, .inr (.inr (.inl ⟨rfl, e0, hEQ⟩))⟩
     case measure => simp [intOf]
    ·have hv : cmpI y1 x1 = -1 := by unfold cmpI; rw [if_pos (by omega)]
     have HK := hide (⟨e0, hc⟩ : x0 = y0 ∧  y1 < x1)
     clear e0 hc
     go_wp2_with (go_at_call 80; refine (HC.out _ _ _).mono ?_; rintro e w7 ⟨rfl, rfl⟩; rw [hv])
     go_ret
     refine HF.out _ ?_ _ (Below.refl _ _)
     obtain ⟨rfl, hc⟩ := HK.out
     unfold cmp3
     simp
     omega
   ·rcases Int.lt_trichotomy x2 y2 with hc | hEQ | hc
    ·have hv : cmpI y2 x2 = 1 := by unfold cmpI; rw [if_neg (by omega), if_pos hc]
     have HK := hide (⟨e0, e1, hc⟩ : x0 = y0 ∧ x1 = y1 ∧  x2 < y2)
     clear e0 e1 hc
     go_wp2_with (go_at_call 80; refine (HC.out _ _ _).mono ?_; rintro e w7 ⟨rfl, rfl⟩; rw [hv])
     go_ret
     refine HF.out _ ?_ _ (Below.refl _ _)
     obtain ⟨rfl, rfl, hc⟩ := HK.out
     unfold cmp3
     simp
     omega
    ·have hv : cmpI y2 x2 = 0 := by unfold cmpI; rw [if_neg (by omega), if_neg (by omega)]
     have HK := hide (⟨e0, e1, hEQ⟩ : x0 = y0 ∧ x1 = y1 ∧  x2 = y2)
     clear e0 e1 hEQ
     go_wp2_with (go_at_call 80; refine (HC.out _ _ _).mono ?_; rintro e w7 ⟨rfl, rfl⟩; rw [hv])
     go_roundw
     case rel =>
      obtain ⟨e0, e1, hEQ⟩ := HK.out
      exact ⟨trivial, .inr (.inr (.inr ⟨rfl, e0, e1, hEQ⟩))⟩
     case measure => simp [intOf]
    ·have hv : cmpI y2 x2 = -1 := by unfold cmpI; rw [if_pos (by omega)]
     have HK := hide (⟨e0, e1, hc⟩ : x0 = y0 ∧ x1 = y1 ∧  y2 < x2)
     clear e0 e1 hc
     go_wp2_with (go_at_call 80; refine (HC.out _ _ _).mono ?_; rintro e w7 ⟨rfl, rfl⟩; rw [hv])
     go_ret
     refine HF.out _ ?_ _ (Below.refl _ _)
     obtain ⟨rfl, rfl, hc⟩ := HK.out
     unfold cmp3
     simp
     omega
   ·have HE := hide (⟨e0, e1, e2⟩ : x0 = y0 ∧ x1 = y1 ∧ x2 = y2)
    clear e0 e1 e2
    go_wp2
    go_ret
    refine HF.out _ ?_ _ (Below.refl _ _)
    obtain ⟨rfl, rfl, rfl⟩ := HE.out
    simp [cmp3]
end Go.Proofs.YtceaeiaoanhlnaaDoor
namespace Go.Proofs.YtceaeiaoanhlnaaDoor
open Go.ChangeShapes Go.WideShapes Go.ChangeAt Go.RowKit Go.Lib Go.Shelf
def outB (low high n : Int) : Bool := decide (n < low) || decide (high < n)
def wchk (lo hi z : Int) (L : List Int) : Int := if L.any (outB lo hi) = true then z else 0
theorem wchk_t {lo hi z : Int} {L : List Int} (h : L.any (outB lo hi) = true) : z = wchk lo hi z L := by unfold wchk; rw [if_pos h]
theorem wchk_f {lo hi z : Int} {L : List Int} (h : L.any (outB lo hi) = false) : 0 = wchk lo hi z L := by unfold wchk; rw [h]; rfl
/-- a question: a function that tells a number, whatever blocks have come -/
def Asks (w : World) (v : Value) (z : Int) : Prop := ∃ k caps, v = .func (.func k) #[] caps ∧ (∀ w, (callFunc k caps).run Tryd.prog w = .ok (.enter k caps) w) ∧ ∀ w', Ext w w' → Calls Tryd.prog k caps w' fun e w'' => e = .returned (.int .i64 z) ∧ Ext w' w''
theorem Asks.ext {w w' : World} {v : Value} {z : Int} (h : Asks w v z) (e : Ext w w') : Asks w' v z := by
 obtain ⟨k, c, h1, h2, h3⟩ := h
 exact ⟨k, c, h1, h2, fun w'' e' => h3 w'' (Ext.trans e e')⟩
set_option maxRecDepth 100000 in
set_option maxHeartbeats 2000000 in
theorem within1_any (L : List Int) (lo hi z : Int) (v : Value) (b0 b1 b2 b3 : Nat) (w : World) (hs : Ints w v L) (c0 : w.cell? ⟨b0, 0, none⟩ = some v) (c1 : w.cell? ⟨b1, 0, none⟩ = some (.int .i64 lo)) (c2 : w.cell? ⟨b2, 0, none⟩ = some (.int .i64 hi)) (c3 : w.cell? ⟨b3, 0, none⟩ = some (.int .i64 z)) :
  Calls Tryd.prog 100 #[.pointer (some ⟨b0, 0, none⟩), .pointer (some ⟨b1, 0, none⟩), .pointer (some ⟨b2, 0, none⟩), .pointer (some ⟨b3, 0, none⟩)] w fun e w' => e = .returned (.int .i64 (wchk lo hi z L)) ∧ Ext w w' := by
 obtain ⟨_, a, c, rfl⟩ := hs.shape
 have HS := hide hs
 clear hs
 go_enter Tryd.func100, Tryd.ntmps100
 go_wp2_with fail
 go_loopw [9] (fun i wr => ∃ k : Nat, k ≤ L.length ∧ i = .int .i64 k ∧ (L.take k).any (outB lo hi) = false ∧ wr = w) (fun i _ => L.length - (intOf i).toNat)
 case atStart => exact ⟨0, by omega, rfl, by simp, rfl⟩
 case round =>
  obtain ⟨k, hk, rfl, hok, rfl⟩ := hrel
  by_cases hlt : k < L.length
  ·obtain ⟨b, off, rfl, hbb, hc⟩ := ints_at HS.out k hlt
   obtain ⟨x, hx⟩ : ∃ x, L[k] = x := ⟨_, rfl⟩
   have hsn : (L.take (k + 1)).any (outB lo hi) = outB lo hi x := by rw [take_snoc L k hlt, List.any_append, hok, hx]; simp
   have hbd : outB lo hi x = true → L.any (outB lo hi) = true := fun h => by
    rw [List.any_eq_true]; exact ⟨L[k], List.getElem_mem hlt, by rw [hx]; exact h⟩
   rw [hx] at hc
   have HSN := hide hsn
   have HBD := hide hbd
   clear hsn hbd hok hx
   by_cases hl : x < lo
   ·have HO := hide (HBD.out (by simp [outB, hl]))
    go_wp2
    go_ret
    exact ⟨ret_int (wchk_t HO.out), Below.refl _ _⟩
   ·by_cases hh : hi < x
    ·have HO := hide (HBD.out (by simp [outB, hh]))
     go_wp2
     go_ret
     exact ⟨ret_int (wchk_t HO.out), Below.refl _ _⟩
    ·have HO := hide (HSN.out.trans (show outB lo hi x = false by simp [outB, hl, hh]))
     go_wp2
     go_roundw
     case rel => exact ⟨k + 1, hlt, by go_num, HO.out, trivial⟩
     case measure => simp [intOf]; omega
  ·obtain rfl : k = L.length := by omega
   rw [List.take_length] at hok
   have HOK := hide hok
   clear hok
   go_wp2
   go_ret
   exact ⟨ret_int (wchk_f HOK.out), Below.refl _ _⟩
set_option maxRecDepth 100000 in
set_option maxHeartbeats 2000000 in
theorem within_any (L : List Int) (lo hi z : Int) (v : Value) (w : World) (hs : Ints w v L) :
  Calls Tryd.prog 75 #[.int .i64 z, .int .i64 lo, .int .i64 hi, v] w fun e w' => ∃ u, e = .returned u ∧ Asks w' u (wchk lo hi z L) ∧ Ext w w' := by
 obtain ⟨_, a, c, rfl⟩ := hs.shape
 have HS := hide hs
 clear hs
 go_enter Tryd.func75, Tryd.ntmps75
 go_wp2_with fail
 go_ret
 refine ⟨_, rfl, ⟨100, _, rfl, fun w => by kernel_rfl, ?_⟩, ?_⟩
 ·intro w' e'
  refine within1_any L lo hi z (.slice a L.length c) _ _ _ _ w' ?_ ?_ ?_ ?_ ?_
  ·exact HS.out.ext (Ext.trans ((((Below.alloc (Below.refl _ w) (Nat.le_refl _) _).alloc (by simp) _).alloc (by simp; omega) _).alloc (by simp; omega) _) e')
  ·exact (e'.cell (p := ⟨_, 0, none⟩) (by first | (simp; done) | (simp; omega))).trans (by go_simp)
  ·exact (e'.cell (p := ⟨_, 0, none⟩) (by first | (simp; done) | (simp; omega))).trans (by go_simp)
  ·exact (e'.cell (p := ⟨_, 0, none⟩) (by first | (simp; done) | (simp; omega))).trans (by go_simp)
  ·exact (e'.cell (p := ⟨_, 0, none⟩) (by first | (simp; done) | (simp; omega))).trans (by go_simp)
 ·exact ((((Below.alloc (Below.refl _ w) (Nat.le_refl _) _).alloc (by simp) _).alloc (by simp; omega) _).alloc (by simp; omega) _)
set_option maxRecDepth 100000 in
set_option maxHeartbeats 2000000 in
theorem first_any (Z : List Int) (a : Option Addr) (n c : Nat) (w : World) (hn : Z.length = n) (hl : n ≤ 1000) (hs : ∀ i (hi : i < Z.length), ∃ b off u, a = some ⟨b, off, none⟩ ∧ b < w.heap.size ∧ w.cell? ⟨b, off + i, none⟩ = some u ∧ Asks w u Z[i]) :
  Calls Tryd.prog 70 #[.slice a n c] w fun e w' => e = .returned (.int .i64 ((Z.find? (· != 0)).getD 0)) ∧ Ext w w' := by
 subst hn
 have HS := hide hs
 clear hs
 have hlz : (Z.length : Int) ≤ 1000 := by omega
 go_enter Tryd.func70, Tryd.ntmps70
 go_wp2_with fail
 go_loopw [8] (fun i wr => ∃ k : Nat, k ≤ Z.length ∧ i = .int .i64 k ∧ (Z.find? (· != 0)).getD 0 = ((Z.drop k).find? (· != 0)).getD 0 ∧ Ext w wr) (fun i _ => Z.length - (intOf i).toNat)
 case atStart => exact ⟨0, by omega, rfl, by simp, Below.refl _ _⟩
 case round =>
  obtain ⟨k, hk, rfl, hok, hext⟩ := hrel
  by_cases hlt : k < Z.length
  ·obtain ⟨b, off, u, rfl, hbb, hc, hask⟩ := HS.out k hlt
   obtain ⟨j, caps, rfl, hen, hcall⟩ := hask.ext hext
   have hc' := (hext.cell (p := ⟨b, off + k, none⟩) hbb).trans hc
   obtain ⟨x, hx⟩ : ∃ x, Z[k] = x := ⟨_, rfl⟩
   have hd : Z.drop k = x :: Z.drop (k + 1) := by rw [← hx]; exact List.drop_eq_getElem_cons hlt
   rw [hd] at hok
   rw [hx] at hcall
   have HCALL := hide (hcall _ (Below.refl _ _))
   have HOK := hide hok
   clear hcall hok hask hd hx hc
   by_cases hx0 : x = 0
   ·have hne : (x != 0) = false := by simp [hx0]
    go_wp2_with (go_at_fn j; refine HCALL.out.mono ?_; rintro e w7 ⟨rfl, E7⟩)
    go_roundw
    case rel =>
     refine ⟨k + 1, hlt, by go_num, ?_, Ext.trans hext E7⟩
     rw [HOK.out, List.find?_cons, hne]
    case measure => simp [intOf]; omega
   ·have hne : (x != 0) = true := by simp [hx0]
    have HX := hide (show x = (Z.find? (· != 0)).getD 0 by rw [HOK.out, List.find?_cons, hne]; rfl)
    go_wp2_with (go_at_fn j; refine HCALL.out.mono ?_; rintro e w7 ⟨rfl, E7⟩)
    go_ret
    exact ⟨ret_int HX.out, Ext.trans hext E7⟩
  ·obtain rfl : k = Z.length := by omega
   have HOK := hide hok
   clear hok
   go_wp2
   go_ret
   exact ⟨ret_int (by rw [HOK.out]; simp), hext⟩
end Go.Proofs.YtceaeiaoanhlnaaDoor
namespace Go.Proofs.YtceaeiaoanhlnaaDoor
open Go.ChangeShapes Go.WideShapes Go.ChangeAt Go.RowKit Go.Lib Go.Shelf
structure RuleD where
 path : ByteArray
 ex : Bool
 hv : Value
 H : List HeadD
 pv : Value
 P : List (Int × Int)
 mi : Int
 ab : Int
 de : Int
 ti : Int
 pre : ByteArray
 sv : Value
 S : List HeadD
 dv : Value
 D : List ByteArray
 q0 : Int
 q1 : Int
 q2 : Int
 q3 : Int
 q4 : Int
 q5 : Int
 q6 : Int
 rate : Int
def RuleD.val (r : RuleD) : Value := .agg #[.string r.path, .bool r.ex, r.hv, r.pv, .int .i64 r.mi, .int .i64 r.ab, .int .i64 r.de, .int .i64 r.ti, .string r.pre, r.sv, r.dv, .int .i64 r.q0, .int .i64 r.q1, .int .i64 r.q2, .int .i64 r.q3, .int .i64 r.q4, .int .i64 r.q5, .int .i64 r.q6, .int .i64 r.rate]
def encR (r : RuleD) : List Value := [.string r.path, .bool r.ex, r.hv, r.pv, .int .i64 r.mi, .int .i64 r.ab, .int .i64 r.de, .int .i64 r.ti, .string r.pre, r.sv, r.dv, .int .i64 r.q0, .int .i64 r.q1, .int .i64 r.q2, .int .i64 r.q3, .int .i64 r.q4, .int .i64 r.q5, .int .i64 r.q6, .int .i64 r.rate]
theorem encR_len (r : RuleD) : (encR r).length = 19 := rfl
/-- the rule's slices read as its lists -/
def RuleOk (w : World) (r : RuleD) : Prop := Heads w r.hv r.H ∧ Parts w r.pv r.P ∧ Heads w r.sv r.S ∧ Strs w r.dv r.D
theorem RuleOk.ext {w w' : World} {r : RuleD} (h : RuleOk w r) (e : Ext w w') : RuleOk w' r := ⟨h.1.ext e, h.2.1.ext e, h.2.2.1.ext e, h.2.2.2.ext e⟩
def SzB (s : ByteArray) : Prop := s.size ≤ 9223372036854775807
/-- what no rule breaks -/
def RuleFit (r : RuleD) : Prop := SzB r.path ∧ SzB r.pre ∧ HSz r.H ∧ HSz r.S ∧ (∀ d ∈ r.D, SzB d) ∧ (∀ p ∈ r.P, I64 p.1 ∧ I64 p.2) ∧ r.P.length ≤ 1000000
def dropB (d : ByteArray) : Bool := mayB (bl d) []
def wrchk (pre : ByteArray) (S : List HeadD) (D : List ByteArray) : Int :=
 if bl pre ≠ [] ∧ isPath (bl pre) = false then 10 else if hchk S ≠ 0 then hchk S else if 8 < D.length then 2 else if D.all dropB = true then 0 else 11
set_option maxRecDepth 100000 in
set_option maxHeartbeats 2000000 in
theorem namemay_any (s : ByteArray) (w : World) (hs : SzB s) :
  Calls Tryd.prog 101 #[.string s] w fun e w' => e = .returned (.bool (dropB s)) ∧ Ext w w' := by
 have hh : Heads (w.alloc (.cells #[.string s, .string ⟨#[]⟩] 82)) (.slice (some ⟨w.heap.size, 0, none⟩) [((s, ⟨#[]⟩) : HeadD)].length 1) [(s, ⟨#[]⟩)] := by
  refine ⟨by simp, _, _, rfl, ⟨by simp, by simp⟩, fun i x hi => ⟨w.heap.size, 0, rfl, by simp, fun j u hu => ?_⟩⟩
  have hi0 : i = 0 := by
   have := (List.getElem?_eq_some_iff.1 hi).1
   simp at this
   exact this
  subst hi0
  simp at hi
  subst hi
  have := cells_new w [.string s, .string ⟨#[]⟩] 82 j u hu
  rw [add_cell] at this
  simpa using this
 have hc := hhchk_any [(s, ⟨#[]⟩)] _ _ hh (by
  intro h hm
  simp at hm
  subst hm
  exact ⟨hs, by show (0 : Nat) ≤ _; omega⟩)
 have hv : hchk [(s, ⟨#[]⟩)] = if dropB s = true then 0 else 11 := by
  unfold hchk
  simp only [hchkL, getH, dropB, bl, List.length_singleton]
  by_cases h : mayB s.data.toList [] = true <;> simp [h]
 rw [hv] at hc
 have HC := hide hc
 clear hh hc hv
 cases hd : dropB s with
 | true =>
  have hc := HC.out
  rw [hd] at hc
  have HC := hide hc
  clear hc hd
  go_enter Tryd.func101, Tryd.ntmps101
  go_wp2_with fail
  refine HC.out.mono ?_
  rintro e w7 ⟨rfl, E7⟩
  go_wp2
  go_ret
  exact ⟨rfl, Ext.trans ((Below.refl _ w).alloc (Nat.le_refl _) _) E7⟩
 | false =>
  have hc := HC.out
  rw [hd] at hc
  have HC := hide hc
  clear hc hd
  go_enter Tryd.func101, Tryd.ntmps101
  go_wp2_with fail
  refine HC.out.mono ?_
  rintro e w7 ⟨rfl, E7⟩
  go_wp2
  go_ret
  exact ⟨rfl, Ext.trans ((Below.refl _ w).alloc (Nat.le_refl _) _) E7⟩
set_option maxRecDepth 100000 in
set_option maxHeartbeats 4000000 in
theorem wrchk_any (r : RuleD) (w : World) (hok : RuleOk w r) (hf : RuleFit r) (hm : MaxV w) :
  Calls Tryd.prog 77 #[r.val] w fun e w' => e = .returned (.int .i64 (wrchk r.pre r.S r.D)) ∧ Ext w w' := by
 obtain ⟨path, ex, hv, H, pv, P, mi, ab, de, ti, pre, sv, S, dv, D, q0, q1, q2, q3, q4, q5, q6, rate⟩ := r
 obtain ⟨hH, hP, hS, hD⟩ := hok
 obtain ⟨zp, zpre, zH, zS, zD, zP, zl⟩ := hf
 simp only [RuleD.val] at *
 obtain ⟨_, a1, c1, rfl⟩ := hH.shape
 obtain ⟨_, a2, c2, rfl⟩ := hP.shape
 obtain ⟨_, a3, c3, rfl⟩ := hS.shape
 obtain ⟨hdl, a4, c4, rfl⟩ := hD.shape
 have e0 : Ext w (w.alloc (.cells #[.string path, .bool ex, .slice a1 H.length c1, .slice a2 P.length c2, .int .i64 mi, .int .i64 ab, .int .i64 de, .int .i64 ti, .string pre, .slice a3 S.length c3, .slice a4 D.length c4, .int .i64 q0, .int .i64 q1, .int .i64 q2, .int .i64 q3, .int .i64 q4, .int .i64 q5, .int .i64 q6, .int .i64 rate] 43)) := (Below.refl _ w).alloc (Nat.le_refl _) _
 generalize hB : (Obj.cells #[.string path, .bool ex, .slice a1 H.length c1, .slice a2 P.length c2, .int .i64 mi, .int .i64 ab, .int .i64 de, .int .i64 ti, .string pre, .slice a3 S.length c3, .slice a4 D.length c4, .int .i64 q0, .int .i64 q1, .int .i64 q2, .int .i64 q3, .int .i64 q4, .int .i64 q5, .int .i64 q6, .int .i64 rate] 43) = B at e0
 have hcx : ∀ X, Ext (w.alloc B) X → X.cell? ⟨w.heap.size, 8, none⟩ = some (.string pre) ∧ X.cell? ⟨w.heap.size, 9, none⟩ = some (.slice a3 S.length c3) ∧ X.cell? ⟨w.heap.size, 10, none⟩ = some (.slice a4 D.length c4) := fun X hX => by
  subst hB
  exact ⟨(hX.cell (p := ⟨w.heap.size, 8, none⟩) (by simp)).trans (by go_simp), (hX.cell (p := ⟨w.heap.size, 9, none⟩) (by simp)).trans (by go_simp), (hX.cell (p := ⟨w.heap.size, 10, none⟩) (by simp)).trans (by go_simp)⟩
 have hpth : ∀ X, Ext w X → Calls Tryd.prog 53 #[.string pre] X fun e w' => e = .returned (.bool (isPath (bl pre))) ∧ Ext X w' := fun X hX => mpath_any pre X zpre (hm.ext hX)
 have hhc : ∀ X, Ext w X → Calls Tryd.prog 99 #[.slice a3 S.length c3] X fun e w' => e = .returned (.int .i64 (hchk S)) ∧ Ext X w' := fun X hX => hhchk_any S _ X (hS.ext hX) zS
 have hmay : ∀ (X : World) (d : ByteArray), d ∈ D → Calls Tryd.prog 101 #[.string d] X fun e w' => e = .returned (.bool (dropB d)) ∧ Ext X w' := fun X d hd => namemay_any d X (zD d hd)
 have hfin : ∀ z, z = wrchk pre S D → ∀ w9, Ext (w.alloc B) w9 → (Ending.returned (.int .i64 z) = .returned (.int .i64 (wrchk pre S D)) ∧ Ext w w9) := fun z hz w9 h9 => ⟨by rw [hz], Ext.trans e0 h9⟩
 obtain ⟨ip, hip⟩ : ∃ ip, isPath (bl pre) = ip := ⟨_, rfl⟩
 obtain ⟨hc, hhceq⟩ : ∃ hc, hchk S = hc := ⟨_, rfl⟩
 rw [hip] at hpth
 rw [hhceq] at hhc
 have HCX := hide hcx
 have HPTH := hide hpth
 have HHC := hide hhc
 have HMAY := hide hmay
 have HFIN := hide hfin
 have HIP := hide hip
 have HHE := hide hhceq
 have HD := hide hD
 have HE0 := hide e0
 clear hcx hpth hhc hmay hfin hip hhceq hH hP hS hD e0 zp zpre zH zS zD zP zl hm
 have HB := hide hB
 clear hB
 by_cases hp : bl pre = []
 ·have hb1 : pre.toList.isEmpty = true := by rw [toL]; show (bl pre).isEmpty = true; rw [hp]; rfl
  have hb2 : (pre.toList == []) = true := by rw [toL]; show (bl pre == []) = true; rw [hp]; rfl
  have HNE := hide (show ¬ (bl pre ≠ [] ∧ ip = false) from fun h => h.1 hp)
  clear hp
  ·skip
   by_cases h0 : hc = 0
   ·have hne : (hc != 0) = false := by simp [h0]
    by_cases h8 : 8 < D.length
    ·have h8z : (8 : Int) < D.length := by omega
     have HZ := hide (HFIN.out 2 (by unfold wrchk; rw [HHE.out, HIP.out, if_neg HNE.out, if_neg (by simp [h0]), if_pos h8]))
     go_enter Tryd.func77, Tryd.ntmps77
     have hbb := HB.out
     subst hbb
     clear HB
     go_wp2_with fail
     refine (HHC.out _ HE0.out).mono ?_
     rintro e w7 ⟨rfl, E7⟩
     obtain ⟨d8, d9, d10⟩ := HCX.out _ E7
     go_wp2
     go_ret
     exact HZ.out _ E7
    ·have h8z : ¬ (8 : Int) < D.length := by omega
     have hv : wrchk pre S D = if D.all dropB = true then 0 else 11 := by unfold wrchk; rw [HHE.out, HIP.out, if_neg HNE.out, if_neg (by simp [h0]), if_neg h8]
     have HV := hide hv
     clear hv
     go_enter Tryd.func77, Tryd.ntmps77
     have hbb := HB.out
     subst hbb
     clear HB
     go_wp2_with fail
     refine (HHC.out _ HE0.out).mono ?_
     rintro e w7 ⟨rfl, E7⟩
     obtain ⟨d8, d9, d10⟩ := HCX.out _ E7
     go_wp2_with fail
     go_loopw [29] (fun i wr => ∃ k : Nat, k ≤ D.length ∧ i = .int .i64 k ∧ (D.take k).all dropB = true ∧ Ext (w.alloc (.cells #[.string path, .bool ex, .slice a1 H.length c1, .slice a2 P.length c2, .int .i64 mi, .int .i64 ab, .int .i64 de, .int .i64 ti, .string pre, .slice a3 S.length c3, .slice a4 D.length c4, .int .i64 q0, .int .i64 q1, .int .i64 q2, .int .i64 q3, .int .i64 q4, .int .i64 q5, .int .i64 q6, .int .i64 rate] 43)) wr) (fun i _ => D.length - (intOf i).toNat)
     case atStart => exact ⟨0, by omega, rfl, by simp, E7⟩
     case round =>
      obtain ⟨k, hk, rfl, hall, hext⟩ := hrel
      by_cases hlt : k < D.length
      ·obtain ⟨b, off, rfl, hbb, hcs⟩ := strs_at (HD.out.ext (Ext.trans HE0.out hext)) k hlt
       obtain ⟨d, hd⟩ : ∃ d, D[k] = d := ⟨_, rfl⟩
       have hsn : (D.take (k + 1)).all dropB = dropB d := by rw [take_snoc D k hlt, List.all_append, hall, hd]; simp
       have hbd : dropB d = false → D.all dropB = false := fun h => by rw [List.all_eq_false]; exact ⟨D[k], List.getElem_mem hlt, by rw [hd, h]; simp⟩
       have hmy := HMAY.out wr d (by rw [← hd]; exact List.getElem_mem hlt)
       rw [hd] at hcs
       have HSN := hide hsn
       have HBD := hide hbd
       have HMY := hide hmy
       clear hsn hbd hmy hall hd
       cases hdb : dropB d with
       | true =>
        have hmy := HMY.out
        rw [hdb] at hmy
        have HMY := hide hmy
        have HSN := hide (HSN.out.trans hdb)
        clear hmy hdb
        go_wp2_with fail
        refine HMY.out.mono ?_
        rintro e w5 ⟨rfl, E5⟩
        go_wp2
        go_roundw
        case rel => exact ⟨k + 1, hlt, by go_num, HSN.out, Ext.trans hext E5⟩
        case measure => simp [intOf]; omega
       | false =>
        have hmy := HMY.out
        rw [hdb] at hmy
        have HMY := hide hmy
        have HBD := hide (HBD.out hdb)
        clear hmy hdb
        go_wp2_with fail
        refine HMY.out.mono ?_
        rintro e w5 ⟨rfl, E5⟩
        go_wp2
        go_ret
        exact HFIN.out 11 (by rw [HV.out, HBD.out]; rfl) _ (Ext.trans hext E5)
      ·obtain rfl : k = D.length := by omega
       rw [List.take_length] at hall
       have HAL := hide hall
       clear hall
       go_wp2
       go_ret
       exact HFIN.out 0 (by rw [HV.out, HAL.out]; rfl) _ hext
   ·have hne : (hc != 0) = true := by simp [h0]
    have HZ := hide (HFIN.out hc (by unfold wrchk; rw [HHE.out, HIP.out, if_neg HNE.out, if_pos h0]))
    go_enter Tryd.func77, Tryd.ntmps77
    have hbb := HB.out
    subst hbb
    clear HB
    go_wp2_with fail
    refine (HHC.out _ HE0.out).mono ?_
    rintro e w7 ⟨rfl, E7⟩
    obtain ⟨d8, d9, d10⟩ := HCX.out _ E7
    go_wp2
    go_ret
    exact HZ.out _ E7
 ·have hb1 : pre.toList.isEmpty = false := by rw [toL]; show (bl pre).isEmpty = false; simpa using hp
  have hb2 : (pre.toList == []) = false := by rw [toL]; show (bl pre == []) = false; simpa using hp
  cases ip with
  | true =>
   have HNE := hide (show ¬ (bl pre ≠ [] ∧ true = false) from fun h => by cases h.2)
   clear hp
   by_cases h0 : hc = 0
   ·have hne : (hc != 0) = false := by simp [h0]
    by_cases h8 : 8 < D.length
    ·have h8z : (8 : Int) < D.length := by omega
     have HZ := hide (HFIN.out 2 (by unfold wrchk; rw [HHE.out, HIP.out, if_neg HNE.out, if_neg (by simp [h0]), if_pos h8]))
     go_enter Tryd.func77, Tryd.ntmps77
     have hbb := HB.out
     subst hbb
     clear HB
     go_wp2_with fail
     refine (HPTH.out _ HE0.out).mono ?_
     rintro e w6 ⟨rfl, E6⟩
     obtain ⟨f8, f9, f10⟩ := HCX.out _ E6
     go_wp2_with fail
     refine (HHC.out _ (Ext.trans HE0.out E6)).mono ?_
     rintro e w7 ⟨rfl, E7a⟩
     have E7 := Ext.trans E6 E7a
     clear f8 f9 f10
     obtain ⟨d8, d9, d10⟩ := HCX.out _ E7
     go_wp2
     go_ret
     exact HZ.out _ E7
    ·have h8z : ¬ (8 : Int) < D.length := by omega
     have hv : wrchk pre S D = if D.all dropB = true then 0 else 11 := by unfold wrchk; rw [HHE.out, HIP.out, if_neg HNE.out, if_neg (by simp [h0]), if_neg h8]
     have HV := hide hv
     clear hv
     go_enter Tryd.func77, Tryd.ntmps77
     have hbb := HB.out
     subst hbb
     clear HB
     go_wp2_with fail
     refine (HPTH.out _ HE0.out).mono ?_
     rintro e w6 ⟨rfl, E6⟩
     obtain ⟨f8, f9, f10⟩ := HCX.out _ E6
     go_wp2_with fail
     refine (HHC.out _ (Ext.trans HE0.out E6)).mono ?_
     rintro e w7 ⟨rfl, E7a⟩
     have E7 := Ext.trans E6 E7a
     clear f8 f9 f10
     obtain ⟨d8, d9, d10⟩ := HCX.out _ E7
     go_wp2_with fail
     go_loopw [29] (fun i wr => ∃ k : Nat, k ≤ D.length ∧ i = .int .i64 k ∧ (D.take k).all dropB = true ∧ Ext (w.alloc (.cells #[.string path, .bool ex, .slice a1 H.length c1, .slice a2 P.length c2, .int .i64 mi, .int .i64 ab, .int .i64 de, .int .i64 ti, .string pre, .slice a3 S.length c3, .slice a4 D.length c4, .int .i64 q0, .int .i64 q1, .int .i64 q2, .int .i64 q3, .int .i64 q4, .int .i64 q5, .int .i64 q6, .int .i64 rate] 43)) wr) (fun i _ => D.length - (intOf i).toNat)
     case atStart => exact ⟨0, by omega, rfl, by simp, E7⟩
     case round =>
      obtain ⟨k, hk, rfl, hall, hext⟩ := hrel
      by_cases hlt : k < D.length
      ·obtain ⟨b, off, rfl, hbb, hcs⟩ := strs_at (HD.out.ext (Ext.trans HE0.out hext)) k hlt
       obtain ⟨d, hd⟩ : ∃ d, D[k] = d := ⟨_, rfl⟩
       have hsn : (D.take (k + 1)).all dropB = dropB d := by rw [take_snoc D k hlt, List.all_append, hall, hd]; simp
       have hbd : dropB d = false → D.all dropB = false := fun h => by rw [List.all_eq_false]; exact ⟨D[k], List.getElem_mem hlt, by rw [hd, h]; simp⟩
       have hmy := HMAY.out wr d (by rw [← hd]; exact List.getElem_mem hlt)
       rw [hd] at hcs
       have HSN := hide hsn
       have HBD := hide hbd
       have HMY := hide hmy
       clear hsn hbd hmy hall hd
       cases hdb : dropB d with
       | true =>
        have hmy := HMY.out
        rw [hdb] at hmy
        have HMY := hide hmy
        have HSN := hide (HSN.out.trans hdb)
        clear hmy hdb
        go_wp2_with fail
        refine HMY.out.mono ?_
        rintro e w5 ⟨rfl, E5⟩
        go_wp2
        go_roundw
        case rel => exact ⟨k + 1, hlt, by go_num, HSN.out, Ext.trans hext E5⟩
        case measure => simp [intOf]; omega
       | false =>
        have hmy := HMY.out
        rw [hdb] at hmy
        have HMY := hide hmy
        have HBD := hide (HBD.out hdb)
        clear hmy hdb
        go_wp2_with fail
        refine HMY.out.mono ?_
        rintro e w5 ⟨rfl, E5⟩
        go_wp2
        go_ret
        exact HFIN.out 11 (by rw [HV.out, HBD.out]; rfl) _ (Ext.trans hext E5)
      ·obtain rfl : k = D.length := by omega
       rw [List.take_length] at hall
       have HAL := hide hall
       clear hall
       go_wp2
       go_ret
       exact HFIN.out 0 (by rw [HV.out, HAL.out]; rfl) _ hext
   ·have hne : (hc != 0) = true := by simp [h0]
    have HZ := hide (HFIN.out hc (by unfold wrchk; rw [HHE.out, HIP.out, if_neg HNE.out, if_pos h0]))
    go_enter Tryd.func77, Tryd.ntmps77
    have hbb := HB.out
    subst hbb
    clear HB
    go_wp2_with fail
    refine (HPTH.out _ HE0.out).mono ?_
    rintro e w6 ⟨rfl, E6⟩
    obtain ⟨f8, f9, f10⟩ := HCX.out _ E6
    go_wp2_with fail
    refine (HHC.out _ (Ext.trans HE0.out E6)).mono ?_
    rintro e w7 ⟨rfl, E7a⟩
    have E7 := Ext.trans E6 E7a
    clear f8 f9 f10
    obtain ⟨d8, d9, d10⟩ := HCX.out _ E7
    go_wp2
    go_ret
    exact HZ.out _ E7
  | false =>
   have HZ := hide (HFIN.out 10 (by unfold wrchk; rw [HIP.out, if_pos ⟨hp, rfl⟩]))
   clear hp
   go_enter Tryd.func77, Tryd.ntmps77
   have hbb := HB.out
   subst hbb
   clear HB
   go_wp2_with fail
   refine (HPTH.out _ HE0.out).mono ?_
   rintro e w6 ⟨rfl, E6⟩
   go_wp2
   go_ret
   exact HZ.out _ E6
end Go.Proofs.YtceaeiaoanhlnaaDoor
