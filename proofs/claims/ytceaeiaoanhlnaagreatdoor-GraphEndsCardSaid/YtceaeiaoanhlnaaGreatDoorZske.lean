/- Merged texts (SkA, SkB, SkC, SkD, SkG, SkE). -/
import Derived.Test.YtceaeiaoanhlnaaGreatDoorZcbe
import Derived.Shelf.SlicesQ.IndexFunc
import Derived.Ground.SlgfProg
import Derived.Lib.SliceRun
namespace Go.Proofs.YtceaeiaoanhlnaaGreatDoor
open Go.ChangeShapes Go.WideShapes Go.ChangeAt Go.RowKit Go.Lib Go.Shelf
set_option maxHeartbeats 2000000 in
theorem inside_any (n lo hi : Int) (w : World) : Calls Tryz.prog 79 #[.int .i64 n, .int .i64 lo, .int .i64 hi] w fun e w' => e = .returned (.bool (inB lo hi n)) ∧ w = w' := by
 unfold inB
 by_cases h1 : lo ≤ n
 ·by_cases h2 : n ≤ hi
  ·rw [decide_eq_true h1, decide_eq_true h2]
   go_enter Tryz.func79, Tryz.ntmps79
   go_wp2
   go_ret
   exact ⟨rfl, rfl⟩
  ·rw [decide_eq_true h1, decide_eq_false h2]
   go_enter Tryz.func79, Tryz.ntmps79
   go_wp2
   go_ret
   exact ⟨rfl, rfl⟩
 ·rw [decide_eq_false h1]
  go_enter Tryz.func79, Tryz.ntmps79
  go_wp2
  go_ret
  exact ⟨rfl, rfl⟩
set_option maxHeartbeats 2000000 in
theorem rateMay_any (x : RateD) (w : World) : Calls Tryz.prog 51 #[x.val] w fun e w' => e = .returned (.bool (rateB x)) ∧ Ext w w' := by
 obtain ⟨lim, win, sl⟩ := x
 have HW := hide (fun (n lo hi : Int) (w : World) => inside_any n lo hi w)
 have hE : Ext w (w.alloc (.cells #[.int .i64 lim, .int .i64 win, .int .i64 sl] 94)) := (Below.refl _ w).alloc (Nat.le_refl _) _
 have HE := hide hE
 clear hE
 unfold rateB
 simp only [RateD.val]
 go_enter Tryz.func51, Tryz.ntmps51
 go_wp2_with (go_at_call 79; refine (HW.out _ _ _ _).mono ?_; rintro e w' ⟨rfl, rfl⟩)
 trace_state
 all_goals go_ret
 all_goals exact ⟨by simp_all, HE.out⟩
end Go.Proofs.YtceaeiaoanhlnaaGreatDoor
namespace Go.Proofs.YtceaeiaoanhlnaaGreatDoor
open Go.ChangeShapes Go.WideShapes Go.ChangeAt Go.RowKit Go.Lib Go.Shelf
def Tryz.lConE_ren : Go.Shelf.Ren := ⟨fun | 8 => 73 | 6 => 96 | n => n, fun | 22 => 24 | 23 => 87 | 25 => 122 | 4 => 4 | 3 => 3 | 0 => 0 | n => n, fun | n => n⟩
theorem Tryz.lConE : Go.Proofs.SlLaysH0.n8 Tryz.prog Tryz.lConE_ren := {
  mixed := by kernel_rfl
  f6 := ⟨Tryz.f96.name, by decide, Tryz.func96.trans (congrArg some (by kernel_rfl))⟩
  f8 := ⟨Tryz.f73.name, by decide, Tryz.func73.trans (congrArg some (by kernel_rfl))⟩
  t0 := Tryz.underlying0
  a0 := Tryz.isAgg0
  z0 := Tryz.sizeOf0
  v0 := Tryz.zeroValue0
  t3 := Tryz.underlying3
  a3 := Tryz.isAgg3
  z3 := Tryz.sizeOf3
  v3 := Tryz.zeroValue3
  t4 := Tryz.underlying4
  a4 := Tryz.isAgg4
  z4 := Tryz.sizeOf4
  v4 := Tryz.zeroValue4
  t22 := Tryz.underlying24
  a22 := Tryz.isAgg24
  z22 := Tryz.sizeOf24
  v22 := Tryz.zeroValue24
  t25 := Tryz.underlying122
  a25 := Tryz.isAgg122
  z25 := Tryz.sizeOf122
  v25 := Tryz.zeroValue122 }
def Tryz.lConV_ren : Go.Shelf.Ren := ⟨fun | 8 => 98 | 6 => 131 | n => n, fun | 22 => 23 | 23 => 62 | 25 => 148 | 4 => 4 | 3 => 3 | 0 => 0 | n => n, fun | n => n⟩
theorem Tryz.lConV : Go.Proofs.SlLaysH0.n8 Tryz.prog Tryz.lConV_ren := {
  mixed := by kernel_rfl
  f6 := ⟨Tryz.f131.name, by decide, Tryz.func131.trans (congrArg some (by kernel_rfl))⟩
  f8 := ⟨Tryz.f98.name, by decide, Tryz.func98.trans (congrArg some (by kernel_rfl))⟩
  t0 := Tryz.underlying0
  a0 := Tryz.isAgg0
  z0 := Tryz.sizeOf0
  v0 := Tryz.zeroValue0
  t3 := Tryz.underlying3
  a3 := Tryz.isAgg3
  z3 := Tryz.sizeOf3
  v3 := Tryz.zeroValue3
  t4 := Tryz.underlying4
  a4 := Tryz.isAgg4
  z4 := Tryz.sizeOf4
  v4 := Tryz.zeroValue4
  t22 := Tryz.underlying23
  a22 := Tryz.isAgg23
  z22 := Tryz.sizeOf23
  v22 := Tryz.zeroValue23
  t25 := Tryz.underlying148
  a25 := Tryz.isAgg148
  z25 := Tryz.sizeOf148
  v25 := Tryz.zeroValue148 }
theorem numMay_any (c : ConfD) (w : World) : Calls Tryz.prog 53 #[c.val] w fun e w' => e = .returned (.bool (numB c)) ∧ Ext w w' := by
 obtain ⟨sv, S, ev, E, rv, R, tv, T, w0, w1, w2, w3, w4, w5, w6, panic, low, high, wait, hop, life, purse, horizon, sample⟩ := c
 have HW := hide (fun (n lo hi : Int) (w : World) => inside_any n lo hi w)
 have hE : ∀ a, Ext w (w.alloc a) := fun a => (Below.refl _ w).alloc (Nat.le_refl _) _
 have HE := hide hE
 clear hE
 unfold numB
 simp only [ConfD.val]
 by_cases h100 : high ≤ 100
 ·rw [decide_eq_true h100]
  go_enter Tryz.func53, Tryz.ntmps53
  go_wp2_with (go_at_call 79; refine (HW.out _ _ _ _).mono ?_; rintro e w' ⟨rfl, rfl⟩)
  all_goals go_ret
  all_goals exact ⟨by simp_all, HE.out _⟩
 ·rw [decide_eq_false h100]
  go_enter Tryz.func53, Tryz.ntmps53
  go_wp2_with (go_at_call 79; refine (HW.out _ _ _ _).mono ?_; rintro e w' ⟨rfl, rfl⟩)
  all_goals go_ret
  all_goals exact ⟨by simp_all, HE.out _⟩
theorem pred_end (id : Int) (B : Nat) (w : World) (hB : B < w.heap.size) (hcell : w.cell? ⟨B, 0, none⟩ = some (.int .i64 id)) :
  PredBelow Tryz.prog 82 #[.pointer (some ⟨B, 0, none⟩)] (fun x => .agg (encE x).toArray) (fun x => x.id == id) w := fun W x hb => by
 have hc : W.cell? ⟨B, 0, none⟩ = some (.int .i64 id) := (hb.cell (p := ⟨B, 0, none⟩) hB).trans hcell
 have hBW : B < W.heap.size := Nat.lt_of_lt_of_le hB hb.size
 have hne : B ≠ W.heap.size := by omega
 show Calls Tryz.prog 82 #[.agg #[.int .i64 x.id, .int .i64 x.svc, .int .i64 x.zone], .pointer (some ⟨B, 0, none⟩)] W _
 go_enter Tryz.func82, Tryz.ntmps82
 go_wp2
 all_goals (go_ret; exact ⟨by simp_all, hb.alloc hb.size _⟩)
theorem pred_svc (id : Int) (B : Nat) (w : World) (hB : B < w.heap.size) (hcell : w.cell? ⟨B, 0, none⟩ = some (.int .i64 id)) :
  PredBelow Tryz.prog 99 #[.pointer (some ⟨B, 0, none⟩)] (fun x => .agg (encV x).toArray) (fun x => x.id == id) w := fun W x hb => by
 have hc : W.cell? ⟨B, 0, none⟩ = some (.int .i64 id) := (hb.cell (p := ⟨B, 0, none⟩) hB).trans hcell
 have hBW : B < W.heap.size := Nat.lt_of_lt_of_le hB hb.size
 have hne : B ≠ W.heap.size := by omega
 show Calls Tryz.prog 99 #[.agg #[.int .i64 x.id, x.kv, .int .i64 x.work, .int .i64 x.slots, .int .i64 x.queue, .int .i64 x.bal, .int .i64 x.warm], .pointer (some ⟨B, 0, none⟩)] W _
 go_enter Tryz.func99, Tryz.ntmps99
 go_wp2
 all_goals (go_ret; exact ⟨by simp_all, hb.alloc hb.size _⟩)
instance : Inhabited EndD := ⟨⟨0, 0, 0⟩⟩
instance : Inhabited SvcD := ⟨⟨0, .slice none 0 0, [], 0, 0, 0, 0, 0⟩⟩
theorem idx0_End (a : Option Addr) (c g : Nat) (lb : Array Value) (w : World) : Calls Tryz.prog 96 #[.slice a 0 c, .func (.func g) #[] lb] w fun e w' => e = .returned (.int .i64 (-1)) ∧ w = w' := by
 go_enter Tryz.func96, Tryz.ntmps96
 go_wp2_with fail
 go_loopw [8] (fun v8 wr => v8 = .int .i64 0 ∧ wr = w) (fun _ _ => 0)
 case atStart => exact ⟨rfl, rfl⟩
 case round =>
  obtain ⟨rfl, rfl⟩ := hrel
  go_wp2
  go_ret
  exact ⟨rfl, rfl⟩
theorem conE_any (E : List EndD) (p : EndD → Bool) (g : Nat) (lb : Array Value) (eg : ∀ args w, (callFunc g args).run Tryz.prog w = .ok (.enter g args) w) (v : Value) (w : World) (hs : Ends w v E) (hp : PredBelow Tryz.prog g lb (fun x => .agg (encE x).toArray) p w) :
  Calls Tryz.prog 73 #[v, .func (.func g) #[] lb] w fun e w' => e = .returned (.bool (E.any p)) ∧ Ext w w' := by
 obtain ⟨hl, a, c, rfl⟩ := hs.shape
 have hcap := hs.cap
 by_cases h0 : E = []
 ·subst h0
  clear hs hp
  go_enter Tryz.func73, Tryz.ntmps73
  go_wp2_with (go_at_call 96; refine (idx0_End _ _ _ _ _).mono ?_; rintro e w' ⟨rfl, rfl⟩)
  go_ret
  exact ⟨by simp, Below.refl _ _⟩
 ·have hn : 0 < E.length := List.length_pos_iff.2 h0
  obtain ⟨b, off, rfl, hb⟩ := hs.some hn
  obtain ⟨_, a', c', hv, _, hc⟩ := hs
  cases hv
  have hcc : ∀ j, j < E.length → ∀ i u, (encE E[j]!)[i]? = some u → w.cell? ⟨b, off + j * 3 + i, none⟩ = some u := fun j hj i u hu => by
   obtain ⟨b', off', ha, _, h⟩ := hc j E[j] (List.getElem?_eq_getElem hj)
   cases ha
   rw [getElem!_pos E j hj] at hu
   exact h i u hu
  have := AnyQ.slices_ContainsFunc Tryz.lConE 3 Tryz.isAgg87 Tryz.sizeOf87 encE encE_len p g lb eg b off E.length c E w hp (Nat.le_refl _) (by omega) hb hcc
  rw [List.take_length] at this
  exact this
theorem idx0_Service (a : Option Addr) (c g : Nat) (lb : Array Value) (w : World) : Calls Tryz.prog 131 #[.slice a 0 c, .func (.func g) #[] lb] w fun e w' => e = .returned (.int .i64 (-1)) ∧ w = w' := by
 go_enter Tryz.func131, Tryz.ntmps131
 go_wp2_with fail
 go_loopw [8] (fun v8 wr => v8 = .int .i64 0 ∧ wr = w) (fun _ _ => 0)
 case atStart => exact ⟨rfl, rfl⟩
 case round =>
  obtain ⟨rfl, rfl⟩ := hrel
  go_wp2
  go_ret
  exact ⟨rfl, rfl⟩
theorem conV_any (E : List SvcD) (p : SvcD → Bool) (g : Nat) (lb : Array Value) (eg : ∀ args w, (callFunc g args).run Tryz.prog w = .ok (.enter g args) w) (v : Value) (w : World) (hs : Svcs w v E) (hp : PredBelow Tryz.prog g lb (fun x => .agg (encV x).toArray) p w) :
  Calls Tryz.prog 98 #[v, .func (.func g) #[] lb] w fun e w' => e = .returned (.bool (E.any p)) ∧ Ext w w' := by
 obtain ⟨hl, a, c, rfl⟩ := hs.shape
 have hcap := hs.cap
 by_cases h0 : E = []
 ·subst h0
  clear hs hp
  go_enter Tryz.func98, Tryz.ntmps98
  go_wp2_with (go_at_call 131; refine (idx0_Service _ _ _ _ _).mono ?_; rintro e w' ⟨rfl, rfl⟩)
  go_ret
  exact ⟨by simp, Below.refl _ _⟩
 ·have hn : 0 < E.length := List.length_pos_iff.2 h0
  obtain ⟨b, off, rfl, hb⟩ := hs.some hn
  obtain ⟨_, a', c', hv, _, hc⟩ := hs
  cases hv
  have hcc : ∀ j, j < E.length → ∀ i u, (encV E[j]!)[i]? = some u → w.cell? ⟨b, off + j * 7 + i, none⟩ = some u := fun j hj i u hu => by
   obtain ⟨b', off', ha, _, h⟩ := hc j E[j] (List.getElem?_eq_getElem hj)
   cases ha
   rw [getElem!_pos E j hj] at hu
   exact h i u hu
  have := AnyQ.slices_ContainsFunc Tryz.lConV 7 Tryz.isAgg62 Tryz.sizeOf62 encV encV_len p g lb eg b off E.length c E w hp (Nat.le_refl _) (by omega) hb hcc
  rw [List.take_length] at this
  exact this
end Go.Proofs.YtceaeiaoanhlnaaGreatDoor
namespace Go.Proofs.YtceaeiaoanhlnaaGreatDoor
open Go.ChangeShapes Go.WideShapes Go.ChangeAt Go.RowKit Go.Lib Go.Shelf
theorem enters_end (args : Array Value) (w : World) : (callFunc 82 args).run Tryz.prog w = .ok (.enter 82 args) w := enters_of Tryz.func82 (by kernel_rfl) rfl args w
theorem enters_svc (args : Array Value) (w : World) : (callFunc 99 args).run Tryz.prog w = .ok (.enter 99 args) w := enters_of Tryz.func99 (by kernel_rfl) rfl args w
set_option maxHeartbeats 2000000 in
theorem there_any (id : Int) (S : List SvcD) (v : Value) (w : World) (hs : Svcs w v S) :
  Calls Tryz.prog 80 #[.int .i64 id, v] w fun e w' => e = .returned (.bool (thereB S id)) ∧ Ext w w' := by
 have hE : Ext w (w.alloc (.cells #[.int .i64 id] 3)) := (Below.refl _ w).alloc (Nat.le_refl _) _
 have hcon := conV_any S (fun x => x.id == id) 99 #[.pointer (some ⟨w.heap.size, 0, none⟩)] enters_svc v _ (hs.ext hE) (pred_svc id w.heap.size _ (by simp) (by simp))
 obtain ⟨hl, a, c, rfl⟩ := hs.shape
 have HC := hide hcon
 have HE := hide hE
 clear hcon hE hs
 go_enter Tryz.func80, Tryz.ntmps80
 go_wp2_with (go_at_call 98; refine HC.out.mono ?_; rintro e w' ⟨rfl, hb'⟩)
 go_ret
 exact ⟨rfl, HE.out.trans hb'⟩
set_option maxHeartbeats 4000000 in
theorem endMay_any (x : EndD) (E : List EndD) (S : List SvcD) (v1 v2 : Value) (w : World) (h1 : Ends w v1 E) (h2 : Svcs w v2 S) :
  Calls Tryz.prog 48 #[x.val, v1, v2] w fun e w' => e = .returned (.bool (endB E S x)) ∧ Ext w w' := by
 obtain ⟨id, svc, zone⟩ := x
 have hE : Ext w (w.alloc (.cells #[.int .i64 id, .int .i64 svc, .int .i64 zone] 87)) := (Below.refl _ w).alloc (Nat.le_refl _) _
 have hc0 : (w.alloc (.cells #[.int .i64 id, .int .i64 svc, .int .i64 zone] 87)).cell? ⟨w.heap.size, 0, none⟩ = some (.int .i64 id) := by simp
 have hc1 : (w.alloc (.cells #[.int .i64 id, .int .i64 svc, .int .i64 zone] 87)).cell? ⟨w.heap.size, 1, none⟩ = some (.int .i64 svc) := by simp
 have hc2 : (w.alloc (.cells #[.int .i64 id, .int .i64 svc, .int .i64 zone] 87)).cell? ⟨w.heap.size, 2, none⟩ = some (.int .i64 zone) := by simp
 have hB : w.heap.size < (w.alloc (.cells #[.int .i64 id, .int .i64 svc, .int .i64 zone] 87)).heap.size := by simp
 have hcon := conE_any E (fun x => x.id == id) 82 #[.pointer (some ⟨w.heap.size, 0, none⟩)] enters_end v1 _ (h1.ext hE) (pred_end id w.heap.size _ hB hc0)
 have hth := fun X (hX : Ext w X) => there_any svc S v2 X (h2.ext hX)
 have HW := hide (fun (n lo hi : Int) (w : World) => inside_any n lo hi w)
 obtain ⟨hl1, a1, c1, rfl⟩ := h1.shape
 obtain ⟨hl2, a2, c2, rfl⟩ := h2.shape
 unfold endB
 simp only [EndD.val]
 obtain ⟨b1, hb1⟩ : ∃ b, (E.any fun x => x.id == id) = b := ⟨_, rfl⟩
 obtain ⟨b2, hb2⟩ : ∃ b, thereB S svc = b := ⟨_, rfl⟩
 rw [hb1] at hcon ⊢
 rw [hb2] at hth ⊢
 have HC := hide hcon
 have HT := hide hth
 have HE := hide hE
 have HC0 := hide hc0
 have HC1 := hide hc1
 have HC2 := hide hc2
 have HB := hide hB
 clear hcon hth hE h1 h2 hb1 hb2 hc0 hc1 hc2 hB
 go_enter Tryz.func48, Tryz.ntmps48
 go_wp2_with fail
 refine HC.out.mono ?_
 rintro e w1 ⟨rfl, E1⟩
 have k0 := (E1.cell (p := ⟨w.heap.size, 0, none⟩) HB.out).trans HC0.out
 have k1 := (E1.cell (p := ⟨w.heap.size, 1, none⟩) HB.out).trans HC1.out
 have k2 := (E1.cell (p := ⟨w.heap.size, 2, none⟩) HB.out).trans HC2.out
 have HX := hide (HE.out.trans E1)
 have hlt : w.heap.size < w1.heap.size := Nat.lt_of_lt_of_le HB.out E1.size
 clear E1
 cases b1
 ·go_wp2_with (first
   | (go_at_call 79; refine (HW.out _ _ _ _).mono ?_; rintro e w' ⟨rfl, rfl⟩)
   | (go_at_call 80; refine (HT.out _ HX.out).mono ?_; rintro e w2 ⟨rfl, E2⟩; have k3 := (E2.cell (p := ⟨w.heap.size, 2, none⟩) hlt).trans k2))
  all_goals go_ret
  all_goals first
   | exact ⟨by simp_all, HX.out⟩
   | exact ⟨by simp_all, HX.out.trans E2⟩
 ·go_wp2_with (first
   | (go_at_call 79; refine (HW.out _ _ _ _).mono ?_; rintro e w' ⟨rfl, rfl⟩)
   | (go_at_call 80; refine (HT.out _ HX.out).mono ?_; rintro e w2 ⟨rfl, E2⟩; have k3 := (E2.cell (p := ⟨w.heap.size, 2, none⟩) hlt).trans k2))
  all_goals go_ret
  all_goals first
   | exact ⟨by simp_all, HX.out⟩
   | exact ⟨by simp_all, HX.out.trans E2⟩
set_option maxHeartbeats 4000000 in
theorem servicesThere_any (r : RuleD) (S : List SvcD) (v : Value) (w : World) (hok : RuleOk w r) (h2 : Svcs w v S) :
  Calls Tryz.prog 50 #[r.val, v] w fun e w' => e = .returned (.bool (leadB S r)) ∧ Ext w w' := by
 have hth := fun id X (hX : Ext w X) => there_any id S v X (h2.ext hX)
 obtain ⟨hl2, a2, c2, rfl⟩ := h2.shape
 obtain ⟨path, ex, hv, H, pv, P, mi, ab, de, ti, pre, sv, S', dv, D, q0, q1, q2, q3, q4, q5, q6, rate⟩ := r
 obtain ⟨hH, hP, hS, hD⟩ := hok
 simp only [RuleD.val] at *
 obtain ⟨_, a1, c1, rfl⟩ := hH.shape
 obtain ⟨hlp, ap, cp, rfl⟩ := hP.shape
 obtain ⟨_, a3, c3, rfl⟩ := hS.shape
 obtain ⟨_, a4, c4, rfl⟩ := hD.shape
 have hcap := hP.cap
 have hE : Ext w (w.alloc (.cells #[.string path, .bool ex, .slice a1 H.length c1, .slice ap P.length cp, .int .i64 mi, .int .i64 ab, .int .i64 de, .int .i64 ti, .string pre, .slice a3 S'.length c3, .slice a4 D.length c4, .int .i64 q0, .int .i64 q1, .int .i64 q2, .int .i64 q3, .int .i64 q4, .int .i64 q5, .int .i64 q6, .int .i64 rate] 54)) := (Below.refl _ w).alloc (Nat.le_refl _) _
 have hc4 : (w.alloc (.cells #[.string path, .bool ex, .slice a1 H.length c1, .slice ap P.length cp, .int .i64 mi, .int .i64 ab, .int .i64 de, .int .i64 ti, .string pre, .slice a3 S'.length c3, .slice a4 D.length c4, .int .i64 q0, .int .i64 q1, .int .i64 q2, .int .i64 q3, .int .i64 q4, .int .i64 q5, .int .i64 q6, .int .i64 rate] 54)).cell? ⟨w.heap.size, 4, none⟩ = some (.int .i64 mi) := by simp
 have hB : w.heap.size < (w.alloc (.cells #[.string path, .bool ex, .slice a1 H.length c1, .slice ap P.length cp, .int .i64 mi, .int .i64 ab, .int .i64 de, .int .i64 ti, .string pre, .slice a3 S'.length c3, .slice a4 D.length c4, .int .i64 q0, .int .i64 q1, .int .i64 q2, .int .i64 q3, .int .i64 q4, .int .i64 q5, .int .i64 q6, .int .i64 rate] 54)).heap.size := by simp
 have HE := hide hE
 have HP := hide hP
 have HT := hide hth
 have HC4 := hide hc4
 have HB := hide hB
 obtain ⟨-, hp1, hp2⟩ := hcap
 unfold leadB
 simp only []
 obtain ⟨rr, hrr⟩ : ∃ b, ((P.all fun p => thereB S p.1) && (mi == 0 || thereB S mi)) = b := ⟨_, rfl⟩
 rw [hrr]
 have HRR := hide hrr
 clear hrr hE hP hth hc4 hB hH hS hD h2
 go_enter Tryz.func50, Tryz.ntmps50
 go_wp2_with fail
 go_loopw [10] (fun v10 wr => ∃ k : Nat, v10 = .int .i64 k ∧ k ≤ P.length ∧ Hid (Ext (w.alloc (.cells #[.string path, .bool ex, .slice a1 H.length c1, .slice ap P.length cp, .int .i64 mi, .int .i64 ab, .int .i64 de, .int .i64 ti, .string pre, .slice a3 S'.length c3, .slice a4 D.length c4, .int .i64 q0, .int .i64 q1, .int .i64 q2, .int .i64 q3, .int .i64 q4, .int .i64 q5, .int .i64 q6, .int .i64 rate] 54)) wr) ∧ Hid (∀ p ∈ P.take k, thereB S p.1 = true)) (fun i _ => P.length - (intOf i).toNat)
 case atStart => exact ⟨0, rfl, Nat.zero_le _, Below.refl _ _, fun p hp => by simp at hp⟩
 case round =>
  obtain ⟨k, rfl, hk, hx, hall⟩ := hrel
  have HX := hide hx.out
  have HAL := hide hall.out
  clear hx hall
  by_cases hlt : k < P.length
  ·obtain ⟨_, a', c', hv, _, hc⟩ := HP.out
   cases hv
   obtain ⟨b, off, rfl, hbb, hcc⟩ := hc k P[k] (List.getElem?_eq_getElem hlt)
   obtain ⟨⟨p1, p2⟩, hp⟩ : ∃ p, P[k] = p := ⟨_, rfl⟩
   rw [hp] at hcc
   have hxw := HE.out.trans HX.out
   have d0 : wr.cell? ⟨b, off + k * 2, none⟩ = some (.int .i64 p1) := (hxw.cell (p := ⟨b, off + k * 2, none⟩) hbb).trans (hcc 0 _ rfl)
   have d1 : wr.cell? ⟨b, off + k * 2 + 1, none⟩ = some (.int .i64 p2) := (hxw.cell (p := ⟨b, off + k * 2 + 1, none⟩) hbb).trans (hcc 1 _ rfl)
   have hbr : b < wr.heap.size := Nat.lt_of_lt_of_le hbb hxw.size
   have hkz : (k : Int) < P.length := by omega
   have hth := HT.out p1
   obtain ⟨bt, hbt⟩ : ∃ x, thereB S p1 = x := ⟨_, rfl⟩
   rw [hbt] at hth
   have hin : (p1, p2) ∈ P := by rw [← hp]; exact List.getElem_mem hlt
   have hnx : bt = true → ∀ p ∈ P.take (k + 1), thereB S p.1 = true := fun h0 x hx => by
    rw [take_snoc P k hlt] at hx
    rcases List.mem_append.1 hx with hx | hx
    ·exact HAL.out x hx
    ·rw [List.mem_singleton.1 hx, hp]; exact hbt.trans h0
   have hno : bt = false → (P.all fun p => thereB S p.1) = false := fun h0 => by
    rw [List.all_eq_false]
    exact ⟨(p1, p2), hin, by simp [hbt, h0]⟩
   have HTH := hide (hth _ (hxw.trans ((Below.refl _ wr).alloc (Nat.le_refl _) (.cells #[.int .i64 p1, .int .i64 p2] 103))))
   have HXA := hide (HX.out.trans ((Below.refl _ wr).alloc (Nat.le_refl _) (.cells #[.int .i64 p1, .int .i64 p2] 103)))
   have HNX := hide hnx
   have HNO := hide hno
   clear hth hnx hno hc hcc hbt hin hp hbb hxw
   cases bt
   ·go_wp2_with (go_at_call 80; refine HTH.out.mono ?_; rintro e w2 ⟨rfl, E2⟩)
    go_ret
    exact ⟨by rw [← HRR.out, HNO.out (by trivial)]; rfl, HE.out.trans (HXA.out.trans E2)⟩
   ·go_wp2_with (go_at_call 80; refine HTH.out.mono ?_; rintro e w2 ⟨rfl, E2⟩)
    go_roundw
    case rel => exact ⟨k + 1, by go_num, hlt, HXA.out.trans E2, HNX.out (by trivial)⟩
    case measure => simp [intOf] <;> omega
  ·obtain rfl : k = P.length := by omega
   have hal : (P.all fun p => thereB S p.1) = true := by
    rw [List.all_eq_true]
    intro x hx
    exact HAL.out x (by rw [List.take_length]; exact hx)
   have m4 : wr.cell? ⟨w.heap.size, 4, none⟩ = some (.int .i64 mi) := (HX.out.cell (p := ⟨w.heap.size, 4, none⟩) HB.out).trans HC4.out
   have hth := HT.out mi wr (HE.out.trans HX.out)
   obtain ⟨bt, hbt⟩ : ∃ x, thereB S mi = x := ⟨_, rfl⟩
   rw [hbt] at hth
   have HAA := hide hal
   have HBT := hide hbt
   have HTH := hide hth
   clear hth hbt hal hlt
   by_cases hmi : mi = 0
   ·subst hmi
    go_wp2
    go_ret
    exact ⟨by rw [← HRR.out, HAA.out]; simp, HE.out.trans HX.out⟩
   ·have hmb : (mi == 0) = false := beq_eq_false_iff_ne.2 hmi
    go_wp2_with (go_at_call 80; refine HTH.out.mono ?_; rintro e w2 ⟨rfl, E2⟩)
    go_ret
    exact ⟨by rw [← HRR.out, HAA.out, hmb, HBT.out]; simp, HE.out.trans (HX.out.trans E2)⟩
end Go.Proofs.YtceaeiaoanhlnaaGreatDoor
namespace Go.Proofs.YtceaeiaoanhlnaaGreatDoor
open Go.ChangeShapes Go.WideShapes Go.ChangeAt Go.RowKit Go.Lib Go.Shelf
set_option maxHeartbeats 8000000 in
theorem serviceMay_any (s : SvcD) (S : List SvcD) (v : Value) (w : World) (hm : MaxV w) (hk : Strs w s.kv s.K) (hK : ∀ p ∈ s.K, SzB p) (h2 : Svcs w v S) :
  Calls Tryz.prog 47 #[s.val, v] w fun e w' => e = .returned (.bool (svcB S s)) ∧ Ext w w' := by
 have hth := fun id X (hX : Ext w X) => there_any id S v X (h2.ext hX)
 obtain ⟨hl2, a2, c2, rfl⟩ := h2.shape
 obtain ⟨id, kv, K, work, slots, queue, bal, warm⟩ := s
 simp only [SvcD.val] at *
 obtain ⟨hlk, ak, ck, rfl⟩ := hk.shape
 have hcap := hk.cap
 have hE : Ext w (w.alloc (.cells #[.int .i64 id, .slice ak K.length ck, .int .i64 work, .int .i64 slots, .int .i64 queue, .int .i64 bal, .int .i64 warm] 62)) := (Below.refl _ w).alloc (Nat.le_refl _) _
 have hB : w.heap.size < (w.alloc (.cells #[.int .i64 id, .slice ak K.length ck, .int .i64 work, .int .i64 slots, .int .i64 queue, .int .i64 bal, .int .i64 warm] 62)).heap.size := by simp
 have hc1 : (w.alloc (.cells #[.int .i64 id, .slice ak K.length ck, .int .i64 work, .int .i64 slots, .int .i64 queue, .int .i64 bal, .int .i64 warm] 62)).cell? ⟨w.heap.size, 1, none⟩ = some (.slice ak K.length ck) := by simp
 have hc2 : (w.alloc (.cells #[.int .i64 id, .slice ak K.length ck, .int .i64 work, .int .i64 slots, .int .i64 queue, .int .i64 bal, .int .i64 warm] 62)).cell? ⟨w.heap.size, 2, none⟩ = some (.int .i64 work) := by simp
 have hc3 : (w.alloc (.cells #[.int .i64 id, .slice ak K.length ck, .int .i64 work, .int .i64 slots, .int .i64 queue, .int .i64 bal, .int .i64 warm] 62)).cell? ⟨w.heap.size, 3, none⟩ = some (.int .i64 slots) := by simp
 have hc4 : (w.alloc (.cells #[.int .i64 id, .slice ak K.length ck, .int .i64 work, .int .i64 slots, .int .i64 queue, .int .i64 bal, .int .i64 warm] 62)).cell? ⟨w.heap.size, 4, none⟩ = some (.int .i64 queue) := by simp
 have hc5 : (w.alloc (.cells #[.int .i64 id, .slice ak K.length ck, .int .i64 work, .int .i64 slots, .int .i64 queue, .int .i64 bal, .int .i64 warm] 62)).cell? ⟨w.heap.size, 5, none⟩ = some (.int .i64 bal) := by simp
 have hc6 : (w.alloc (.cells #[.int .i64 id, .slice ak K.length ck, .int .i64 work, .int .i64 slots, .int .i64 queue, .int .i64 bal, .int .i64 warm] 62)).cell? ⟨w.heap.size, 6, none⟩ = some (.int .i64 warm) := by simp
 have HW := hide (fun (n lo hi : Int) (w : World) => inside_any n lo hi w)
 have hw1 := fun X => inside_any id 1 10 X
 have hth1 := hth id
 obtain ⟨-, hp1, hp2⟩ := hcap
 obtain ⟨rr, hrr⟩ : ∃ b, svcB S (⟨id, .slice ak K.length ck, K, work, slots, queue, bal, warm⟩ : SvcD) = b := ⟨_, rfl⟩
 rw [hrr]
 unfold svcB at hrr
 simp only [] at hrr
 have HRR := hide hrr
 have HE := hide hE
 have HB := hide hB
 have HC1 := hide hc1
 have HC2 := hide hc2
 have HC3 := hide hc3
 have HC4 := hide hc4
 have HC5 := hide hc5
 have HC6 := hide hc6
 have HK := hide hk
 have HSZ := hide hK
 have HM := hide hm
 obtain ⟨b1, hb1⟩ : ∃ b, inB 1 10 id = b := ⟨_, rfl⟩
 obtain ⟨b2, hb2⟩ : ∃ b, thereB S id = b := ⟨_, rfl⟩
 rw [hb1] at hw1
 rw [hb2] at hth1
 have HW1 := hide hw1
 have HT := hide hth1
 have HB1 := hide hb1
 have HB2 := hide hb2
 clear hrr hE hB hc1 hc2 hc3 hc4 hc5 hc6 hk hK hm hw1 hth1 hth hb1 hb2 h2
 cases b1
 ·go_enter Tryz.func47, Tryz.ntmps47
  go_wp2_with (go_at_call 79; refine (HW1.out _).mono ?_; rintro e w1 ⟨rfl, rfl⟩)
  go_ret
  exact ⟨by rw [← HRR.out, HB1.out]; rfl, HE.out⟩
 cases b2
 rotate_left
 ·go_enter Tryz.func47, Tryz.ntmps47
  go_wp2_with (first
   | (go_at_call 79; refine (HW1.out _).mono ?_; rintro e w1 ⟨rfl, rfl⟩)
   | (go_at_call 80; refine (HT.out _ HE.out).mono ?_; rintro e w2 ⟨rfl, E2⟩; have k1 : w2.cell? ⟨w.heap.size, 1, none⟩ = some (.slice ak K.length ck) := (E2.cell (p := ⟨w.heap.size, 1, none⟩) HB.out).trans HC1.out))
  go_ret
  exact ⟨by rw [← HRR.out, HB1.out, HB2.out]; rfl, HE.out.trans E2⟩
 by_cases h4 : K.length ≤ 4
 rotate_left
 ·have h4z : (4 : Int) < K.length := by omega
  go_enter Tryz.func47, Tryz.ntmps47
  go_wp2_with (first
   | (go_at_call 79; refine (HW1.out _).mono ?_; rintro e w1 ⟨rfl, rfl⟩)
   | (go_at_call 80; refine (HT.out _ HE.out).mono ?_; rintro e w2 ⟨rfl, E2⟩; have k1 : w2.cell? ⟨w.heap.size, 1, none⟩ = some (.slice ak K.length ck) := (E2.cell (p := ⟨w.heap.size, 1, none⟩) HB.out).trans HC1.out))
  go_ret
  exact ⟨by rw [← HRR.out, HB1.out, HB2.out, decide_eq_false h4]; rfl, HE.out.trans E2⟩
 have h4z : ¬ (4 : Int) < K.length := by omega
 have H4 := hide h4
 clear h4
 go_enter Tryz.func47, Tryz.ntmps47
 go_wp2_with (first
  | (go_at_call 79; refine (HW1.out _).mono ?_; rintro e w1 ⟨rfl, rfl⟩)
  | (go_at_call 80; refine (HT.out _ HE.out).mono ?_; rintro e w2 ⟨rfl, E2⟩; have k1 : w2.cell? ⟨w.heap.size, 1, none⟩ = some (.slice ak K.length ck) := (E2.cell (p := ⟨w.heap.size, 1, none⟩) HB.out).trans HC1.out))
 have HE2 := hide E2
 clear E2 h4z
 go_loopw [26] (fun v26 wr => ∃ k : Nat, v26 = .int .i64 k ∧ k ≤ K.length ∧ Hid (Ext (w.alloc (.cells #[.int .i64 id, .slice ak K.length ck, .int .i64 work, .int .i64 slots, .int .i64 queue, .int .i64 bal, .int .i64 warm] 62)) wr) ∧ Hid (∀ p ∈ K.take k, isPath (bl p) = true)) (fun i _ => K.length - (intOf i).toNat)
 case atStart => exact ⟨0, rfl, Nat.zero_le _, HE2.out, fun p hp => by simp at hp⟩
 case round =>
  obtain ⟨k, rfl, hk, hx, hall⟩ := hrel
  have HX := hide hx.out
  have HAL := hide hall.out
  clear hx hall
  by_cases hlt : k < K.length
  ·obtain ⟨b, off, rfl, hbb, hc⟩ := strs_at HK.out k hlt
   obtain ⟨p, hp⟩ : ∃ p, K[k] = p := ⟨_, rfl⟩
   rw [hp] at hc
   have hxw := HE.out.trans HX.out
   have d0 : wr.cell? ⟨b, off + k, none⟩ = some (.string p) := (hxw.cell (p := ⟨b, off + k, none⟩) hbb).trans hc
   have hin : p ∈ K := by rw [← hp]; exact List.getElem_mem hlt
   have hpa : Calls Tryz.prog 81 #[.string p] wr fun e w' => e = .returned (.bool (isPath (bl p))) ∧ Ext wr w' := mpath_any p wr (HSZ.out p hin) (HM.out.ext hxw)
   have hkz : (k : Int) < K.length := by omega
   obtain ⟨bt, hbt⟩ : ∃ x, isPath (bl p) = x := ⟨_, rfl⟩
   rw [hbt] at hpa
   have hnx : bt = true → ∀ q ∈ K.take (k + 1), isPath (bl q) = true := fun h0 x hx => by
    rw [take_snoc K k hlt] at hx
    rcases List.mem_append.1 hx with hx | hx
    ·exact HAL.out x hx
    ·rw [List.mem_singleton.1 hx, hp]; exact hbt.trans h0
   have hno : bt = false → (K.all fun q => isPath (bl q)) = false := fun h0 => by
    rw [List.all_eq_false]
    exact ⟨p, hin, by simp [hbt, h0]⟩
   have HPA := hide hpa
   have HNX := hide hnx
   have HNO := hide hno
   clear hnx hno hc hbt hin hp hbb hxw hpa
   cases bt
   ·go_wp2_with (go_at_call 81; refine HPA.out.mono ?_; rintro e w2 ⟨rfl, E2⟩)
    go_ret
    exact ⟨by rw [← HRR.out, HNO.out (by trivial)]; simp, HE.out.trans (HX.out.trans E2)⟩
   ·go_wp2_with (go_at_call 81; refine HPA.out.mono ?_; rintro e w2 ⟨rfl, E2⟩)
    go_roundw
    case rel => exact ⟨k + 1, by go_num, hlt, HX.out.trans E2, HNX.out (by trivial)⟩
    case measure => simp [intOf] <;> omega
  ·obtain rfl : k = K.length := by omega
   have hal : (K.all fun q => isPath (bl q)) = true := by
    rw [List.all_eq_true]
    intro x hx
    exact HAL.out x (by rw [List.take_length]; exact hx)
   have hrr := HRR.out
   rw [HB1.out, HB2.out, decide_eq_true H4.out, hal] at hrr
   have hrr : (inB 1 100 work && inB 1 20 slots && inB 1 50 queue && inB 1 3 bal && inB 0 100 warm) = rr := by simpa using hrr
   have m2 : wr.cell? ⟨w.heap.size, 2, none⟩ = some (.int .i64 work) := (HX.out.cell (p := ⟨w.heap.size, 2, none⟩) HB.out).trans HC2.out
   have m3 : wr.cell? ⟨w.heap.size, 3, none⟩ = some (.int .i64 slots) := (HX.out.cell (p := ⟨w.heap.size, 3, none⟩) HB.out).trans HC3.out
   have m4 : wr.cell? ⟨w.heap.size, 4, none⟩ = some (.int .i64 queue) := (HX.out.cell (p := ⟨w.heap.size, 4, none⟩) HB.out).trans HC4.out
   have m5 : wr.cell? ⟨w.heap.size, 5, none⟩ = some (.int .i64 bal) := (HX.out.cell (p := ⟨w.heap.size, 5, none⟩) HB.out).trans HC5.out
   have m6 : wr.cell? ⟨w.heap.size, 6, none⟩ = some (.int .i64 warm) := (HX.out.cell (p := ⟨w.heap.size, 6, none⟩) HB.out).trans HC6.out
   have HRR2 := hide hrr
   clear hrr hal hlt HRR
   go_wp2_with (go_at_call 79; refine (HW.out _ _ _ _).mono ?_; rintro e w' ⟨rfl, rfl⟩)
   all_goals go_ret
   all_goals exact ⟨by rw [← HRR2.out]; simp_all, HE.out.trans HX.out⟩
end Go.Proofs.YtceaeiaoanhlnaaGreatDoor
namespace Go.Proofs.YtceaeiaoanhlnaaGreatDoor
open Go.ChangeShapes Go.WideShapes Go.ChangeAt Go.RowKit Go.Lib Go.Shelf
theorem Tryz.und190 : Tryz.prog.underlying 135 = some (.array 7 134) := by kernel_rfl
theorem index190 (a b c : Value) (cs : Array Value) (k : Nat) (hk : k < 7) (w : World) (h : cs.extract (k * 3) (k * 3 + 3) = #[a, b, c]) : (Instr.index 135 (.agg cs) (.int .i64 (k : Int))).run Tryz.prog w = .ok (.agg #[a, b, c]) w := by
 have h1 : (0 : Int) ≤ k ∧ (k : Int) < 7 := by omega
 simp [Instr.index, asIntOf, Go.underlying, part, h1, h]
 intro h7
 omega
@[go_sem] theorem index190_0 (a0 a1 a2 a3 a4 a5 a6 a7 a8 a9 a10 a11 a12 a13 a14 a15 a16 a17 a18 a19 a20 : Value) (w : World) : (Instr.index 135 (.agg #[a0, a1, a2, a3, a4, a5, a6, a7, a8, a9, a10, a11, a12, a13, a14, a15, a16, a17, a18, a19, a20]) (.int .i64 0)).run Tryz.prog w = .ok (.agg #[a0, a1, a2]) w := index190 _ _ _ _ 0 (by omega) w rfl
@[go_sem] theorem index190_1 (a0 a1 a2 a3 a4 a5 a6 a7 a8 a9 a10 a11 a12 a13 a14 a15 a16 a17 a18 a19 a20 : Value) (w : World) : (Instr.index 135 (.agg #[a0, a1, a2, a3, a4, a5, a6, a7, a8, a9, a10, a11, a12, a13, a14, a15, a16, a17, a18, a19, a20]) (.int .i64 1)).run Tryz.prog w = .ok (.agg #[a3, a4, a5]) w := index190 _ _ _ _ 1 (by omega) w rfl
@[go_sem] theorem index190_2 (a0 a1 a2 a3 a4 a5 a6 a7 a8 a9 a10 a11 a12 a13 a14 a15 a16 a17 a18 a19 a20 : Value) (w : World) : (Instr.index 135 (.agg #[a0, a1, a2, a3, a4, a5, a6, a7, a8, a9, a10, a11, a12, a13, a14, a15, a16, a17, a18, a19, a20]) (.int .i64 2)).run Tryz.prog w = .ok (.agg #[a6, a7, a8]) w := index190 _ _ _ _ 2 (by omega) w rfl
@[go_sem] theorem index190_3 (a0 a1 a2 a3 a4 a5 a6 a7 a8 a9 a10 a11 a12 a13 a14 a15 a16 a17 a18 a19 a20 : Value) (w : World) : (Instr.index 135 (.agg #[a0, a1, a2, a3, a4, a5, a6, a7, a8, a9, a10, a11, a12, a13, a14, a15, a16, a17, a18, a19, a20]) (.int .i64 3)).run Tryz.prog w = .ok (.agg #[a9, a10, a11]) w := index190 _ _ _ _ 3 (by omega) w rfl
@[go_sem] theorem index190_4 (a0 a1 a2 a3 a4 a5 a6 a7 a8 a9 a10 a11 a12 a13 a14 a15 a16 a17 a18 a19 a20 : Value) (w : World) : (Instr.index 135 (.agg #[a0, a1, a2, a3, a4, a5, a6, a7, a8, a9, a10, a11, a12, a13, a14, a15, a16, a17, a18, a19, a20]) (.int .i64 4)).run Tryz.prog w = .ok (.agg #[a12, a13, a14]) w := index190 _ _ _ _ 4 (by omega) w rfl
@[go_sem] theorem index190_5 (a0 a1 a2 a3 a4 a5 a6 a7 a8 a9 a10 a11 a12 a13 a14 a15 a16 a17 a18 a19 a20 : Value) (w : World) : (Instr.index 135 (.agg #[a0, a1, a2, a3, a4, a5, a6, a7, a8, a9, a10, a11, a12, a13, a14, a15, a16, a17, a18, a19, a20]) (.int .i64 5)).run Tryz.prog w = .ok (.agg #[a15, a16, a17]) w := index190 _ _ _ _ 5 (by omega) w rfl
@[go_sem] theorem index190_6 (a0 a1 a2 a3 a4 a5 a6 a7 a8 a9 a10 a11 a12 a13 a14 a15 a16 a17 a18 a19 a20 : Value) (w : World) : (Instr.index 135 (.agg #[a0, a1, a2, a3, a4, a5, a6, a7, a8, a9, a10, a11, a12, a13, a14, a15, a16, a17, a18, a19, a20]) (.int .i64 6)).run Tryz.prog w = .ok (.agg #[a18, a19, a20]) w := index190 _ _ _ _ 6 (by omega) w rfl
end Go.Proofs.YtceaeiaoanhlnaaGreatDoor
namespace Go.Proofs.YtceaeiaoanhlnaaGreatDoor
open Go.ChangeShapes Go.WideShapes Go.ChangeAt Go.RowKit Go.Lib Go.Shelf
def wLo (_w0 _w1 _w2 _w3 _w4 w5 _w6 : Int) : Nat → Int
 | 0 => 1
 | 1 => 1
 | 2 => 0
 | 3 => 0
 | 4 => 0
 | 5 => 1
 | 6 => w5
 | _ => 0
def wHi (_w0 _w1 _w2 _w3 _w4 _w5 _w6 : Int) : Nat → Int
 | 0 => 100
 | 1 => 10000
 | 2 => 100
 | 3 => 10000
 | 4 => 100
 | 5 => 10000
 | 6 => 10000
 | _ => 0
def wNu (w0 w1 w2 w3 w4 w5 w6 : Int) : Nat → Int
 | 0 => w0
 | 1 => w1
 | 2 => w2
 | 3 => w3
 | 4 => w4
 | 5 => w5
 | 6 => w6
 | _ => 0
/-- what is left to be looked at from the k-th number on -/
def wRest (w0 w1 w2 w3 w4 w5 w6 : Int) (k : Nat) : Bool := ([inB 1 100 w0, inB 1 10000 w1, inB 0 100 w2, inB 0 10000 w3, inB 0 100 w4, inB 1 10000 w5, inB w5 10000 w6].drop k).all id
theorem wRest_step (w0 w1 w2 w3 w4 w5 w6 : Int) (k : Nat) (hk : k < 7) : wRest w0 w1 w2 w3 w4 w5 w6 k = (inB (wLo w0 w1 w2 w3 w4 w5 w6 k) (wHi w0 w1 w2 w3 w4 w5 w6 k) (wNu w0 w1 w2 w3 w4 w5 w6 k) && wRest w0 w1 w2 w3 w4 w5 w6 (k + 1)) := by
 rcases (by omega : k = 0 ∨ k = 1 ∨ k = 2 ∨ k = 3 ∨ k = 4 ∨ k = 5 ∨ k = 6) with rfl | rfl | rfl | rfl | rfl | rfl | rfl <;> rfl
theorem wArr (w0 w1 w2 w3 w4 w5 w6 : Int) (k : Nat) (hk : k < 7) : (#[.int .i64 w0, .int .i64 1, .int .i64 100, .int .i64 w1, .int .i64 1, .int .i64 10000, .int .i64 w2, .int .i64 0, .int .i64 100, .int .i64 w3, .int .i64 0, .int .i64 10000, .int .i64 w4, .int .i64 0, .int .i64 100, .int .i64 w5, .int .i64 1, .int .i64 10000, .int .i64 w6, .int .i64 w5, .int .i64 10000] : Array Value).extract (k * 3) (k * 3 + 3) = #[.int .i64 (wNu w0 w1 w2 w3 w4 w5 w6 k), .int .i64 (wLo w0 w1 w2 w3 w4 w5 w6 k), .int .i64 (wHi w0 w1 w2 w3 w4 w5 w6 k)] := by
 rcases (by omega : k = 0 ∨ k = 1 ∨ k = 2 ∨ k = 3 ∨ k = 4 ∨ k = 5 ∨ k = 6) with rfl | rfl | rfl | rfl | rfl | rfl | rfl <;> rfl
theorem Tryz.size190' : (Tryz.prog.info? 135).map (·.size) = some 21 := by kernel_rfl
set_option maxRecDepth 100000 in
set_option maxHeartbeats 4000000 in
theorem watchC_any (c : ConfD) (w : World) :
  Calls Tryz.prog 52 #[.agg #[.int .i64 c.w0, .int .i64 c.w1, .int .i64 c.w2, .int .i64 c.w3, .int .i64 c.w4, .int .i64 c.w5, .int .i64 c.w6]] w fun e w' => e = .returned (.int .i64 (if watchB c = false then 8 else 0)) ∧ Ext w w' := by
 have hw : watchB c = wRest c.w0 c.w1 c.w2 c.w3 c.w4 c.w5 c.w6 0 := by unfold watchB wRest; simp [Bool.and_assoc]
 rw [hw]
 clear hw
 generalize c.w0 = w0
 generalize c.w1 = w1
 generalize c.w2 = w2
 generalize c.w3 = w3
 generalize c.w4 = w4
 generalize c.w5 = w5
 generalize c.w6 = w6
 have HST := hide (wRest_step w0 w1 w2 w3 w4 w5 w6)
 have HAR := hide (wArr w0 w1 w2 w3 w4 w5 w6)
 have h7 : wRest w0 w1 w2 w3 w4 w5 w6 7 = true := rfl
 have H7 := hide h7
 obtain ⟨rest, hrest⟩ : ∃ f, wRest w0 w1 w2 w3 w4 w5 w6 = f := ⟨_, rfl⟩
 obtain ⟨lo, hlo⟩ : ∃ f, wLo w0 w1 w2 w3 w4 w5 w6 = f := ⟨_, rfl⟩
 obtain ⟨hi, hhi⟩ : ∃ f, wHi w0 w1 w2 w3 w4 w5 w6 = f := ⟨_, rfl⟩
 obtain ⟨nu, hnu⟩ : ∃ f, wNu w0 w1 w2 w3 w4 w5 w6 = f := ⟨_, rfl⟩
 rw [hrest] at HST H7 ⊢
 rw [hlo, hhi, hnu] at HST HAR
 obtain ⟨rr, hrr⟩ : ∃ z : Int, (if rest 0 = false then 8 else 0) = z := ⟨_, rfl⟩
 rw [hrr]
 have HRR := hide hrr
 have hE : ∀ (X : World) a, Ext X (X.alloc a) := fun X a => (Below.refl _ X).alloc (Nat.le_refl _) _
 have HE := hide hE
 clear hrr hE h7 hrest hlo hhi hnu
 go_enter Tryz.func52, Tryz.ntmps52
 go_upto_region 1 with (fail)
 have hx1 : Ext w (w.alloc (.cells #[.int .i64 w0, .int .i64 w1, .int .i64 w2, .int .i64 w3, .int .i64 w4, .int .i64 w5, .int .i64 w6] 28)) := HE.out _ _
 have c0 : (w.alloc (.cells #[.int .i64 w0, .int .i64 w1, .int .i64 w2, .int .i64 w3, .int .i64 w4, .int .i64 w5, .int .i64 w6] 28)).cell? ⟨w.heap.size, 0, none⟩ = some (.int .i64 w0) := by simp
 have c1 : (w.alloc (.cells #[.int .i64 w0, .int .i64 w1, .int .i64 w2, .int .i64 w3, .int .i64 w4, .int .i64 w5, .int .i64 w6] 28)).cell? ⟨w.heap.size, 1, none⟩ = some (.int .i64 w1) := by simp
 have c2 : (w.alloc (.cells #[.int .i64 w0, .int .i64 w1, .int .i64 w2, .int .i64 w3, .int .i64 w4, .int .i64 w5, .int .i64 w6] 28)).cell? ⟨w.heap.size, 2, none⟩ = some (.int .i64 w2) := by simp
 have c3 : (w.alloc (.cells #[.int .i64 w0, .int .i64 w1, .int .i64 w2, .int .i64 w3, .int .i64 w4, .int .i64 w5, .int .i64 w6] 28)).cell? ⟨w.heap.size, 3, none⟩ = some (.int .i64 w3) := by simp
 have c4 : (w.alloc (.cells #[.int .i64 w0, .int .i64 w1, .int .i64 w2, .int .i64 w3, .int .i64 w4, .int .i64 w5, .int .i64 w6] 28)).cell? ⟨w.heap.size, 4, none⟩ = some (.int .i64 w4) := by simp
 have c5 : (w.alloc (.cells #[.int .i64 w0, .int .i64 w1, .int .i64 w2, .int .i64 w3, .int .i64 w4, .int .i64 w5, .int .i64 w6] 28)).cell? ⟨w.heap.size, 5, none⟩ = some (.int .i64 w5) := by simp
 have c6 : (w.alloc (.cells #[.int .i64 w0, .int .i64 w1, .int .i64 w2, .int .i64 w3, .int .i64 w4, .int .i64 w5, .int .i64 w6] 28)).cell? ⟨w.heap.size, 6, none⟩ = some (.int .i64 w6) := by simp
 generalize w.alloc (.cells #[.int .i64 w0, .int .i64 w1, .int .i64 w2, .int .i64 w3, .int .i64 w4, .int .i64 w5, .int .i64 w6] 28) = W at hx1 c0 c1 c2 c3 c4 c5 c6 ⊢
 refine wp_region_lit ?_
 refine wpList_plain rfl fun K hK => ?_
 go_simp
 refine hK _ _ ?_
 refine wpList_plain rfl fun K hK => ?_
 go_simp
 refine hK _ _ ?_
 refine wpList_plain rfl fun K hK => ?_
 go_simp
 refine hK _ _ ?_
 refine wpList_plain rfl fun K hK => ?_
 go_simp
 refine hK _ _ ?_
 refine wpList_plain rfl fun K hK => ?_
 go_simp
 refine hK _ _ ?_
 refine wpList_plain rfl fun K hK => ?_
 go_simp
 refine hK _ _ ?_
 refine wpList_plain rfl fun K hK => ?_
 go_simp
 refine hK _ _ ?_
 refine wpList_plain rfl fun K hK => ?_
 go_simp
 refine hK _ _ ?_
 refine wpList_plain rfl fun K hK => ?_
 go_simp
 refine hK _ _ ?_
 refine wpList_plain rfl fun K hK => ?_
 go_simp
 refine hK _ _ ?_
 refine wpList_plain rfl fun K hK => ?_
 go_simp
 refine hK _ _ ?_
 refine wpList_plain rfl fun K hK => ?_
 go_simp
 refine hK _ _ ?_
 refine wpList_plain rfl fun K hK => ?_
 go_simp
 refine hK _ _ ?_
 refine wpList_plain rfl fun K hK => ?_
 go_simp
 refine hK _ _ ?_
 refine wpList_plain rfl fun K hK => ?_
 go_simp
 refine hK _ _ ?_
 refine wpList_plain rfl fun K hK => ?_
 go_simp
 refine hK _ _ ?_
 refine wpList_plain rfl fun K hK => ?_
 go_simp
 refine hK _ _ ?_
 refine wpList_plain rfl fun K hK => ?_
 go_simp
 refine hK _ _ ?_
 refine wpList_plain rfl fun K hK => ?_
 go_simp
 refine hK _ _ ?_
 refine wpList_plain rfl fun K hK => ?_
 go_simp
 refine hK _ _ ?_
 refine wpList_plain rfl fun K hK => ?_
 go_simp
 refine hK _ _ ?_
 refine wpList_plain rfl fun K hK => ?_
 go_simp
 refine hK _ _ ?_
 refine wpList_plain rfl fun K hK => ?_
 go_simp
 refine hK _ _ ?_
 refine wpList_plain rfl fun K hK => ?_
 go_simp
 refine hK _ _ ?_
 refine wpList_plain rfl fun K hK => ?_
 go_simp
 refine hK _ _ ?_
 clear c0 c1 c2 c3 c4 c5 c6
 have hbz := heap_alloc_new W (.cells #[.int .i64 0, .int .i64 0, .int .i64 0, .int .i64 0, .int .i64 0, .int .i64 0, .int .i64 0, .int .i64 0, .int .i64 0, .int .i64 0, .int .i64 0, .int .i64 0, .int .i64 0, .int .i64 0, .int .i64 0, .int .i64 0, .int .i64 0, .int .i64 0, .int .i64 0, .int .i64 0, .int .i64 0] 135)
 have hx2 : Ext w (W.alloc (.cells #[.int .i64 0, .int .i64 0, .int .i64 0, .int .i64 0, .int .i64 0, .int .i64 0, .int .i64 0, .int .i64 0, .int .i64 0, .int .i64 0, .int .i64 0, .int .i64 0, .int .i64 0, .int .i64 0, .int .i64 0, .int .i64 0, .int .i64 0, .int .i64 0, .int .i64 0, .int .i64 0, .int .i64 0] 135)) := hx1.trans (HE.out _ _)
 have hbs := hx1.size
 generalize W.alloc (.cells #[.int .i64 0, .int .i64 0, .int .i64 0, .int .i64 0, .int .i64 0, .int .i64 0, .int .i64 0, .int .i64 0, .int .i64 0, .int .i64 0, .int .i64 0, .int .i64 0, .int .i64 0, .int .i64 0, .int .i64 0, .int .i64 0, .int .i64 0, .int .i64 0, .int .i64 0, .int .i64 0, .int .i64 0] 135) = W2 at hbz hx2 ⊢
 generalize W.heap.size = b at hbz hbs ⊢
 have hth : W2.there b 0 21 := fun j hj => by
  rw [Nat.zero_add]
  refine ⟨?_, by simp [World.frozen?, hbz]⟩
  simp only [World.cell?, hbz]
  simp [hj]
 refine wpList_store_mid rfl 135 (.tmp 3) (.tmp 29) rfl b 0 #[.int .i64 w0, .int .i64 1, .int .i64 100, .int .i64 w1, .int .i64 1, .int .i64 10000, .int .i64 w2, .int .i64 0, .int .i64 100, .int .i64 w3, .int .i64 0, .int .i64 10000, .int .i64 w4, .int .i64 0, .int .i64 100, .int .i64 w5, .int .i64 1, .int .i64 10000, .int .i64 w6, .int .i64 w5, .int .i64 10000] rfl rfl hth Tryz.size190' (by simp [Value.oneCell']) ?_
 refine wpList_nil ?_
 have hrs := World.rangeAt_setCells_same W2 b 0 [.int .i64 w0, .int .i64 1, .int .i64 100, .int .i64 w1, .int .i64 1, .int .i64 10000, .int .i64 w2, .int .i64 0, .int .i64 100, .int .i64 w3, .int .i64 0, .int .i64 10000, .int .i64 w4, .int .i64 0, .int .i64 100, .int .i64 w5, .int .i64 1, .int .i64 10000, .int .i64 w6, .int .i64 w5, .int .i64 10000] hth
 have hk5 := keeps_setCells b [.int .i64 w0, .int .i64 1, .int .i64 100, .int .i64 w1, .int .i64 1, .int .i64 10000, .int .i64 w2, .int .i64 0, .int .i64 100, .int .i64 w3, .int .i64 0, .int .i64 10000, .int .i64 w4, .int .i64 0, .int .i64 100, .int .i64 w5, .int .i64 1, .int .i64 10000, .int .i64 w6, .int .i64 w5, .int .i64 10000] 0 W2
 show Exit.then _ _ _ _ (W2.setCells b 0 [.int .i64 w0, .int .i64 1, .int .i64 100, .int .i64 w1, .int .i64 1, .int .i64 10000, .int .i64 w2, .int .i64 0, .int .i64 100, .int .i64 w3, .int .i64 0, .int .i64 10000, .int .i64 w4, .int .i64 0, .int .i64 100, .int .i64 w5, .int .i64 1, .int .i64 10000, .int .i64 w6, .int .i64 w5, .int .i64 10000])
 generalize W2.setCells b 0 [.int .i64 w0, .int .i64 1, .int .i64 100, .int .i64 w1, .int .i64 1, .int .i64 10000, .int .i64 w2, .int .i64 0, .int .i64 100, .int .i64 w3, .int .i64 0, .int .i64 10000, .int .i64 w4, .int .i64 0, .int .i64 100, .int .i64 w5, .int .i64 1, .int .i64 10000, .int .i64 w6, .int .i64 w5, .int .i64 10000] = W3 at hrs hk5 ⊢
 have HX3 := hide (Keeps.ext hx2 hk5 (fun g hg => by omega))
 clear hk5 hth hbz hx2 hx1
 simp only [Act.put]
 go_upto_region 2 with (fail)
 refine wp_region_lit ?_
 refine wpList_load_mid rfl 135 (.tmp 3) rfl b 0 rfl [.int .i64 w0, .int .i64 1, .int .i64 100, .int .i64 w1, .int .i64 1, .int .i64 10000, .int .i64 w2, .int .i64 0, .int .i64 100, .int .i64 w3, .int .i64 0, .int .i64 10000, .int .i64 w4, .int .i64 0, .int .i64 100, .int .i64 w5, .int .i64 1, .int .i64 10000, .int .i64 w6, .int .i64 w5, .int .i64 10000] (.array 7 134) hrs Tryz.und190 rfl Tryz.size190' ?_
 clear hrs
 generalize (#[.int .i64 w0, .int .i64 1, .int .i64 100, .int .i64 w1, .int .i64 1, .int .i64 10000, .int .i64 w2, .int .i64 0, .int .i64 100, .int .i64 w3, .int .i64 0, .int .i64 10000, .int .i64 w4, .int .i64 0, .int .i64 100, .int .i64 w5, .int .i64 1, .int .i64 10000, .int .i64 w6, .int .i64 w5, .int .i64 10000] : Array Value) = cs at HAR ⊢
 simp only [Act.put]
 go_wp2_with fail
 have hix : ∀ (k : Nat) (hk : k < 7) (X : World), (Instr.index 135 (.agg cs) (.int .i64 (k : Int))).run Tryz.prog X = .ok (.agg #[.int .i64 (nu k), .int .i64 (lo k), .int .i64 (hi k)]) X := fun k hk X => index190 _ _ _ cs k hk X (HAR.out k hk)
 have HIX := hide hix
 clear hix
 go_loopw [31] (fun v31 wr => ∃ k : Nat, v31 = .int .i64 k ∧ k ≤ 7 ∧ Hid (Ext w wr) ∧ Hid (rest 0 = rest k)) (fun i _ => 7 - (intOf i).toNat)
 case atStart => exact ⟨0, rfl, by omega, HX3.out, rfl⟩
 case round =>
  obtain ⟨k, rfl, hk, hx, hall⟩ := hrel
  have HX := hide hx.out
  have HAL := hide hall.out
  clear hx hall
  by_cases h7 : k < 7
  ·have hst := HST.out k h7
   have hix := HIX.out k h7
   have HS := hide hst
   clear hst
   have h7z : (k : Int) < 7 := by omega
   have hwk : IntKind.i64.wrap ((k : Int) + 1) = ((k + 1 : Nat) : Int) := by rw [IntKind.wrap_i64]; omega
   generalize lo k = l at hix HS
   generalize hi k = h at hix HS
   generalize nu k = n at hix HS
   by_cases h1 : l ≤ n
   ·have h1' : ¬ n < l := by omega
    by_cases h2 : n ≤ h
    ·have h2' : ¬ h < n := by omega
     have HIN := hide (inB_in ⟨h1, h2⟩)
     clear h1 h2
     go_wp2
     go_roundw
     case rel => exact ⟨k + 1, by first | rfl | simp, by omega, HX.out.trans (HE.out _ _), by rw [HAL.out, HS.out, HIN.out]; rfl⟩
     case measure => simp [intOf] <;> omega
    ·have h2' : h < n := by omega
     have hin : inB l h n = false := by unfold inB; rw [decide_eq_false h2]; simp
     have HIN := hide hin
     clear h1 h2 hin
     go_wp2
     go_ret
     exact ⟨by rw [← HRR.out, HAL.out, HS.out, HIN.out]; rfl, HX.out.trans (HE.out _ _)⟩
   ·have h1' : n < l := by omega
    have hin : inB l h n = false := by unfold inB; rw [decide_eq_false h1]; simp
    have HIN := hide hin
    clear h1 hin
    go_wp2
    go_ret
    exact ⟨by rw [← HRR.out, HAL.out, HS.out, HIN.out]; rfl, HX.out.trans (HE.out _ _)⟩
  ·have hk7 : k = 7 := by omega
   subst hk7
   go_wp2
   go_ret
   exact ⟨by rw [← HRR.out, HAL.out, H7.out]; rfl, HX.out⟩
end Go.Proofs.YtceaeiaoanhlnaaGreatDoor
