import Derived.Test.YtmpciohmljpncaaGreatDoorGkG
import Derived.Test.YtmpciohmljpncaaGreatDoorZps
namespace Go.Proofs.YtmpciohmljpncaaGreatDoor
open Go.ChangeShapes Go.WideShapes Go.ChangeAt Go.RowKit Go.Lib Go.Shelf Go.Maps
def Tryz.lConR_ren : Go.Shelf.Ren := ⟨fun | 8 => 14 | 6 => 33 | n => n, fun | 22 => 25 | 23 => 57 | 25 => 65 | 4 => 4 | 3 => 3 | 0 => 0 | n => n, fun | n => n⟩
theorem Tryz.lConR : Go.Proofs.SlLaysH0.n8 Tryz.prog Tryz.lConR_ren := {
  mixed := by kernel_rfl
  f6 := ⟨Tryz.f33.name, by decide, Tryz.func33.trans (congrArg some (by kernel_rfl))⟩
  f8 := ⟨Tryz.f14.name, by decide, Tryz.func14.trans (congrArg some (by kernel_rfl))⟩
  t0 := Tryz.underlying0
  a0 := Tryz.isAgg0
  z0 := Tryz.sizeOf0
  v0 := Tryz.zeroValue0
  t3 := Tryz.underlying3
  a3 := Tryz.isAgg3
  z3 := Tryz.sizeOf3
  v3 := Tryz.zeroValue3
  t4 := Tryz.underlying4
  a4 := Tryz.isAgg4
  z4 := Tryz.sizeOf4
  v4 := Tryz.zeroValue4
  t22 := Tryz.underlying25
  a22 := Tryz.isAgg25
  z22 := Tryz.sizeOf25
  v22 := Tryz.zeroValue25
  t25 := Tryz.underlying65
  a25 := Tryz.isAgg65
  z25 := Tryz.sizeOf65
  v25 := Tryz.zeroValue65 }
instance : Inhabited RuleD := ⟨⟨⟨#[]⟩, false, .slice none 0 0, [], .slice none 0 0, [], 0, 0, 0, 0, ⟨#[]⟩, .slice none 0 0, [], .slice none 0 0, [], 0, 0, 0, 0, 0, 0, 0, 0⟩⟩
theorem depth_any (c : ConfD) (w : World) (h : chkC c = 0) : Calls Tryz.prog 13 #[.agg (encC c).toArray] w fun e w' => e = .returned (.int .i64 (depthC c : Int)) ∧ Ext w w' := by
 have hx : Ext w (w.alloc (.cells (encC c).toArray 30)) := (Below.refl _ _).alloc (Nat.le_refl _) _
 have hb1 := heap_alloc_new w (.cells (encC c).toArray 30)
 obtain ⟨-, -, -, h1, h2, -⟩ := chk_num h
 have hd0 : 0 ≤ c.life / c.hop := Int.ediv_nonneg (by omega) (by omega)
 have hd1 : c.life / c.hop ≤ c.life := Int.ediv_le_self _ (by omega)
 have hD := fdown_any c.life c.hop
 obtain ⟨z, hz⟩ : ∃ z, c.life / c.hop = z := ⟨_, rfl⟩
 have hdep : ((depthC c : Nat) : Int) = c.life / c.hop + 1 := by unfold depthC; omega
 rw [hdep]
 rw [hz] at hd0 hd1 hD ⊢
 clear hdep hz
 have hw : IntKind.i64.wrap (z + 1) = z + 1 := by rw [IntKind.wrap_i64]; omega
 go_enter Tryz.func13, Tryz.ntmps13
 go_upto_region 1 with (fail)
 show Code.wp _ _ _ _ (w.alloc (.cells (encC c).toArray 30))
 generalize w.alloc (.cells (encC c).toArray 30) = W at hx hb1 ⊢
 have q1 : W.cell? ⟨w.heap.size, 15, none⟩ = some (.int .i64 c.hop) := cell_box hb1 15 _ rfl
 have q2 : W.cell? ⟨w.heap.size, 16, none⟩ = some (.int .i64 c.life) := cell_box hb1 16 _ rfl
 have HD := hide (hD W (by omega) (by omega))
 have HX := hide hx
 clear hx hb1 hD h1 h2
 go_wp2_with fail
 refine HD.out.mono ?_
 rintro e w' ⟨rfl, hw2⟩
 subst hw2
 go_wp2
 go_ret
 exact ⟨rfl, HX.out⟩
theorem idx0_Rule (a : Option Addr) (c g : Nat) (lb : Array Value) (w : World) : Calls Tryz.prog 33 #[.slice a 0 c, .func (.func g) #[] lb] w fun e w' => e = .returned (.int .i64 (-1)) ∧ w = w' := by
 go_enter Tryz.func33, Tryz.ntmps33
 go_wp2_with fail
 go_loopw [8] (fun v8 wr => v8 = .int .i64 0 ∧ wr = w) (fun _ _ => 0)
 case atStart => exact ⟨rfl, rfl⟩
 case round =>
  obtain ⟨rfl, rfl⟩ := hrel
  go_wp2
  go_ret
  exact ⟨rfl, rfl⟩
theorem conR_any (E : List RuleD) (p : RuleD → Bool) (g : Nat) (lb : Array Value) (eg : ∀ args w, (callFunc g args).run Tryz.prog w = .ok (.enter g args) w) (v : Value) (w : World) (hs : Rules w v E) (hp : PredBelow Tryz.prog g lb (fun x => .agg (encR x).toArray) p w) :
  Calls Tryz.prog 14 #[v, .func (.func g) #[] lb] w fun e w' => e = .returned (.bool (E.any p)) ∧ Ext w w' := by
 obtain ⟨hl, a, c, rfl⟩ := hs.shape
 have hcap := hs.cap
 by_cases h0 : E = []
 ·subst h0
  clear hs hp
  go_enter Tryz.func14, Tryz.ntmps14
  go_wp2_with (go_at_call 33; refine (idx0_Rule _ _ _ _ _).mono ?_; rintro e w' ⟨rfl, rfl⟩)
  go_ret
  exact ⟨by simp, Below.refl _ _⟩
 ·have hn : 0 < E.length := List.length_pos_iff.2 h0
  obtain ⟨b, off, rfl, hb⟩ := hs.some hn
  obtain ⟨_, a', c', hv, _, hc⟩ := hs
  cases hv
  have hcc : ∀ j, j < E.length → ∀ i u, (encR E[j]!)[i]? = some u → w.cell? ⟨b, off + j * 19 + i, none⟩ = some u := fun j hj i u hu => by
   obtain ⟨b', off', ha, _, h⟩ := hc j E[j] (List.getElem?_eq_getElem hj)
   cases ha
   rw [getElem!_pos E j hj] at hu
   exact h i u hu
  have := AnyQ.slices_ContainsFunc Tryz.lConR 19 Tryz.isAgg57 Tryz.sizeOf57 encR encR_len p g lb eg b off E.length c E w hp (Nat.le_refl _) (by omega) hb hcc
  rw [List.take_length] at this
  exact this
theorem enters_mir (args : Array Value) (w : World) : (callFunc 15 args).run Tryz.prog w = .ok (.enter 15 args) w := enters_of Tryz.func15 (by kernel_rfl) rfl args w
theorem pred_mir (id : Int) (B : Nat) (w : World) (hB : B < w.heap.size) (hcell : w.cell? ⟨B, 0, none⟩ = some (.int .i64 id)) :
  PredBelow Tryz.prog 15 #[.pointer (some ⟨B, 0, none⟩)] (fun x => .agg (encR x).toArray) (fun r => decide (r.mi = id) && decide (r.mi ≠ 0)) w := fun W x hb => by
 have hc : W.cell? ⟨B, 0, none⟩ = some (.int .i64 id) := (hb.cell (p := ⟨B, 0, none⟩) hB).trans hcell
 have hBW : B < W.heap.size := Nat.lt_of_lt_of_le hB hb.size
 have hne : B ≠ W.heap.size := by omega
 have hx : Ext W (W.alloc (.cells (encR x).toArray 57)) := (Below.refl _ _).alloc (Nat.le_refl _) _
 have hb1 := heap_alloc_new W (.cells (encR x).toArray 57)
 obtain ⟨m, hm⟩ : ∃ m, x.mi = m := ⟨_, rfl⟩
 show Calls Tryz.prog 15 #[.agg (encR x).toArray, .pointer (some ⟨B, 0, none⟩)] W fun e w' => e = .returned (.bool (decide (x.mi = id) && decide (x.mi ≠ 0))) ∧ _
 rw [hm]
 go_enter Tryz.func15, Tryz.ntmps15
 go_upto_region 1 with (fail)
 show Code.wp _ _ _ _ (W.alloc (.cells (encR x).toArray 57))
 have hc2 := (hx.cell (p := ⟨B, 0, none⟩) hBW).trans hc
 have hq : (W.alloc (.cells (encR x).toArray 57)).cell? ⟨W.heap.size, 4, none⟩ = some (.int .i64 m) := by rw [← hm]; exact cell_box hb1 4 _ rfl
 have HZ := hide (hb.alloc hb.size (.cells (encR x).toArray 57))
 generalize W.alloc (.cells (encR x).toArray 57) = W2 at hx hb1 hc2 hq HZ ⊢
 clear hb hx hb1 hc
 by_cases h1 : m = id
 ·by_cases h2 : m = 0
  ·have e1 : (m == id) = true := by simp [h1]
   have e2 : (m != 0) = false := by simp [h2]
   go_wp2
   go_ret
   exact ⟨by simp_all, HZ.out⟩
  ·have e1 : (m == id) = true := by simp [h1]
   have e2 : (m != 0) = true := by simp [h2]
   go_wp2
   go_ret
   exact ⟨by simp_all, HZ.out⟩
 ·have e1 : (m == id) = false := by simp [h1]
  go_wp2
  go_ret
  exact ⟨by simp_all, HZ.out⟩
theorem grown_ext {w w' : World} (h : w.grownBy w' none) : Ext w w' := ⟨h.os, h.tape, h.output, h.size, fun q hq => h.block q hq (by simp)⟩
theorem mapV_range {α : Type} {mk : α → Lit} {w : World} {k : TypeId} {b n : Nat} {f : α → Option Value} {t e : TypeId} (h : MapV mk w k b n f) (K : Keyed Tryz.prog k) (ht : Tryz.prog.underlying t = some (.map k e)) :
  ∃ w' cnt, (Instr.range t (.map (some b))).run Tryz.prog w = .ok (.pointer (some ⟨w.heap.size, 0, none⟩)) w' ∧ MapR mk w' k b w.heap.size n f (fun x => (f x).isSome) cnt ∧ w.grownBy w' none ∧ w'.heap.size = w.heap.size + 1 := by
 obtain ⟨D, h1, h2, h3⟩ := h
 obtain ⟨w', hrun, r1, r2, r3⟩ := h1.range K ht
 exact ⟨w', _, hrun, ⟨D, _, r1, h2, h3, h3⟩, r2, r3⟩
/-- the phases of 'range walks(c, service, Depth(c))' -/
def PhF (W : World) (c : ConfD) (id : Int) : List Value → World → Prop
 | [], w' => Ext W w'
 | v :: _, w' => ∃ r bm n cnt, v = .pointer (some ⟨r, 0, none⟩) ∧ Ext W w' ∧ MapR (Lit.int .i64) w' 3 bm r n (fun x => (lvF c id (depthC c) x).map (Value.int .i64)) (fun x => ((lvF c id (depthC c) x).map (Value.int .i64)).isSome) cnt ∧ W.heap.size ≤ r
theorem PhF.keep {W : World} {c : ConfD} {id : Int} : ∀ {vs : List Value} {w' w'' : World}, PhF W c id vs w' → Ext w' w'' → PhF W c id vs w''
 | [], _, _, h, e => Ext.trans h e
 | _ :: _, _, _, ⟨r, bm, n, cnt, h1, h2, h3, h4⟩, e => ⟨r, bm, n, cnt, h1, h2.trans e, h3.ext e, h4⟩
set_option maxRecDepth 100000 in
theorem frame33 (x : Nat → Value) : frameOf 33 x = #[x 0, x 1, x 2, x 3, x 4, x 5, x 6, x 7, x 8, x 9, x 10, x 11, x 12, x 13, x 14, x 15, x 16, x 17, x 18, x 19, x 20, x 21, x 22, x 23, x 24, x 25, x 26, x 27, x 28, x 29, x 30, x 31, x 32] := rfl
set_option maxRecDepth 100000 in
set_option maxHeartbeats 16000000 in
/-- how many attempts reach a service, at most, for each fresh request -/
theorem factor_any (c : ConfD) (id : Int) (w : World) (h : GC w c) (hid : I64 id) :
  Calls Tryz.prog 6 #[.agg (encC c).toArray, .int .i64 id] w fun e w' => e = .returned (.int .i64 (factC c id)) ∧ Ext w w' := by
 obtain ⟨cd, hcd1, hcd2⟩ := Tryz.confDesc
 have hx1 : Ext w (w.alloc (.cells (encC c).toArray 30)) := (Below.refl _ _).alloc (Nat.le_refl _) _
 have hb1 := heap_alloc_new w (.cells (encC c).toArray 30)
 have hx2 : Ext (w.alloc (.cells (encC c).toArray 30)) ((w.alloc (.cells (encC c).toArray 30)).alloc (.cells #[.int .i64 id] 3)) := (Below.refl _ _).alloc (Nat.le_refl _) _
 have hb2 := heap_alloc_new (w.alloc (.cells (encC c).toArray 30)) (.cells #[.int .i64 id] 3)
 have e1 : (w.alloc (.cells (encC c).toArray 30)).heap.size = w.heap.size + 1 := by simp
 rw [e1] at hb2
 have hb1' := (hx2.block _ (by rw [e1]; omega : w.heap.size < _)).trans hb1
 obtain ⟨hl', aR, cR, hvR⟩ := h.r.shape
 have HG := hide (h.ext (hx1.trans hx2))
 have HCR := hide (show (encC c)[2]? = some (.slice aR c.R.length cR) by rw [← hvR]; rfl)
 have HRU := hide (show Rules _ (.slice aR c.R.length cR) c.R by rw [← hvR]; exact HG.out.r)
 have HK := hide (chk_num h.chk)
 have HTEN := hide (fun x (hx : thereB c.S x = true) => there_ten h.chk hx)
 have HCK := hide h.chk
 have HDL := hide (show depthC c ≤ 1000000 by
  obtain ⟨-, -, -, h1, h2, -⟩ := chk_num h.chk
  have hd1 : c.life / c.hop ≤ c.life := Int.ediv_le_self _ (by omega)
  unfold depthC
  omega)
 have HID := hide hid
 clear h hid hvR hl' hb1 e1
 go_enter Tryz.func6, Tryz.ntmps6
 go_upto_region 2 with (fail)
 show Code.wp _ _ _ _ ((w.alloc (.cells (encC c).toArray 30)).alloc (.cells #[.int .i64 id] 3))
 have HX := hide (hx1.trans hx2)
 generalize (w.alloc (.cells (encC c).toArray 30)).alloc (.cells #[.int .i64 id] 3) = W at *
 clear hx1 hx2
 obtain ⟨b0, hb0⟩ : ∃ b, w.heap.size = b := ⟨_, rfl⟩
 rw [hb0] at hb1' hb2 ⊢
 obtain ⟨b1, hb1e⟩ : ∃ b, b0 + 1 = b := ⟨_, rfl⟩
 rw [hb1e] at hb2 ⊢
 have HBX := hide (fun X (hX : Ext W X) => (hX.block b0 (Array.getElem?_eq_some_iff.1 hb1').1).trans hb1')
 have HB1 := hide (fun (X : World) (hX : Ext W X) => (show X.cell? ⟨b1, 0, none⟩ = some (.int .i64 id) from by
  have h := (hX.block b1 (Array.getElem?_eq_some_iff.1 hb2).1).trans hb2
  simp [World.cell?, h]))
 have HDE := hide (fun X (hX : Ext W X) => depth_any c X HCK.out)
 have HWA := hide (fun X (hX : Ext W X) => walks_any c id (depthC c) X (HG.out.ext hX) HID.out HDL.out)
 clear hb1' hb2 hb0 hb1e
 have hx0 : ∀ (vs : List Value) (w' : World), PhF W c id vs w' → Ext W w' := fun vs w' h => by
  cases vs with
  | nil => exact h
  | cons v vs =>
   obtain ⟨r, bm, n, cnt, h1, h2, h3, h4⟩ := h
   exact h2
 refine wp_region_rw 33 [5] [8, 9, 10, 11, 12, 13] (PhF W c id) (fun (t : Nat) (wI : World) (v : Value) => match t with | 8 => v = (.agg (encC c).toArray) | 9 => v = (.int .i64 id) | 10 => v = (.agg (encC c).toArray) | 11 => v = (.int .i64 (depthC c : Int)) | 12 => ∃ bm, v = .map (some bm) ∧ ∃ n, IM wI bm n (lvF c id (depthC c)) | _ => True) (fun w' w'' => Ext w' w'') (by kernel_rfl) rfl (by kernel_rfl) (by kernel_rfl) (by kernel_rfl) (by kernel_rfl) ?_ ?_ ?_ ?_ ?_ ?_ ?_
 ·intro w' w'' h
  exact h
 ·intro t w' w'' v hR hv
  split at hv <;> first | exact hv | ((obtain ⟨bm, h1, n, h2⟩ := hv; exact ⟨bm, h1, n, h2.ext hR⟩))
 ·intro vs w' w'' h e
  exact h.keep e
 ·exact (Below.refl _ _).drew
 ·intro i o ho hmi vs X w' hpk hph hX hI hF K hK
  have hin : i < 6 := (Array.getElem?_eq_some_iff.1 ho).1
  have hi : i = 0 ∨ i = 1 ∨ i = 2 ∨ i = 3 ∨ i = 4 ∨ i = 5 := by omega
  rcases hi with rfl | rfl | rfl | rfl | rfl | rfl
  ·obtain rfl := Option.some.inj ho
   have e2 : X 2 = (.pointer (some ⟨b0, 0, none⟩)) := hF 2 (by omega) (by kernel_rfl)
   have hx : Ext W w' := hx0 vs w' hph
   unfold wpOp
   simp only [ho]
   rw [if_pos (by rfl)]
   left
   rw [frame33]
   refine wp_load_mid 30 (.tmp 2) rfl b0 0 e2 (encC c) cd (range_box (HBX.out w' hx)) hcd1 hcd2 Tryz.confSize (metK (hK.out (.agg (encC c).toArray) _ (Below.refl _ _) (fun d hd => by cases hd; exact rfl)) ?_)
   simp [frame33, Act.put, *]
  ·obtain rfl := Option.some.inj ho
   have e3 : X 3 = (.pointer (some ⟨b1, 0, none⟩)) := hF 3 (by omega) (by kernel_rfl)
   have hx : Ext W w' := hx0 vs w' hph
   have d0 := HB1.out w' hx
   unfold wpOp
   simp only [ho]
   rw [if_pos (by rfl)]
   left
   rw [frame33]
   go_simp
   refine metK (hK.out ((.int .i64 id)) _ (Below.refl _ _) (fun d hd => by cases hd; exact rfl)) ?_
   simp [frame33, Act.put, *]
  ·obtain rfl := Option.some.inj ho
   have e2 : X 2 = (.pointer (some ⟨b0, 0, none⟩)) := hF 2 (by omega) (by kernel_rfl)
   have hx : Ext W w' := hx0 vs w' hph
   unfold wpOp
   simp only [ho]
   rw [if_pos (by rfl)]
   left
   rw [frame33]
   refine wp_load_mid 30 (.tmp 2) rfl b0 0 e2 (encC c) cd (range_box (HBX.out w' hx)) hcd1 hcd2 Tryz.confSize (metK (hK.out (.agg (encC c).toArray) _ (Below.refl _ _) (fun d hd => by cases hd; exact rfl)) ?_)
   simp [frame33, Act.put, *]
  ·obtain rfl := Option.some.inj ho
   have e10 : X 10 = _ := hI 10 (by kernel_rfl) (by kernel_rfl)
   have hx : Ext W w' := hx0 vs w' hph
   unfold wpOp
   simp only [ho]
   rw [if_pos (by rfl)]
   left
   rw [frame33]
   go_simp
   refine (HDE.out w' hx).mono ?_
   rintro e w9 ⟨rfl, E9⟩
   refine metK (hK.out (.int .i64 (depthC c : Int)) w9 E9 (fun d hd => by cases hd; exact rfl)) ?_
   simp [frame33, Act.put, *]
  ·obtain rfl := Option.some.inj ho
   have e8 : X 8 = _ := hI 8 (by kernel_rfl) (by kernel_rfl)
   have e9 : X 9 = _ := hI 9 (by kernel_rfl) (by kernel_rfl)
   have e11 : X 11 = _ := hI 11 (by kernel_rfl) (by kernel_rfl)
   have hx : Ext W w' := hx0 vs w' hph
   unfold wpOp
   simp only [ho]
   rw [if_pos (by rfl)]
   left
   rw [frame33]
   go_simp
   refine (HWA.out w' hx).mono ?_
   rintro e w9 ⟨bm, rfl, hm, E9⟩
   refine metK (hK.out (.map (some bm)) w9 E9 (fun d hd => by cases hd; exact ⟨bm, rfl, hm⟩)) ?_
   simp [frame33, Act.put, *]
  ·exact absurd hmi (by decide)
 ·intro i o ho hmi vs X w' hqi hql hph hX hI hF K hK
  rcases vs with _ | ⟨v0, _⟩
  ·obtain rfl : 5 = i := hqi
   obtain rfl := Option.some.inj ho
   have y12 := hI 12 (by kernel_rfl) (by kernel_rfl)
   obtain ⟨bm, hv, n, hm⟩ := y12
   have e12 : X 12 = .map (some bm) := hv
   obtain ⟨w9, cnt, hrun, hr9, hg9, hs9⟩ := mapV_range (show MapV _ w' _ bm n _ from hm) keyedI Tryz.underlying61
   unfold wpOp
   simp only [ho]
   rw [if_pos (by rfl)]
   left
   rw [frame33]
   unfold Oper.wp
   simp [execOp, Act.eval, e12, hrun, Result.andThen]
   refine metK (hK.out (.pointer (some ⟨w'.heap.size, 0, none⟩)) w9 ⟨w'.heap.size, bm, n, cnt, rfl, (show Ext W w' from hph).trans (grown_ext hg9), hr9, (show Ext W w' from hph).size⟩ (grown_ext hg9)) ?_
   simp [frame33, Act.put, *]
  ·simp at hql <;> omega
 ·intro vs X w' hlen hph hX hI
  have e8 : X 8 = _ := hI 8 (by omega) (by kernel_rfl) (by kernel_rfl)
  have e9 : X 9 = _ := hI 9 (by omega) (by kernel_rfl) (by kernel_rfl)
  have e10 : X 10 = _ := hI 10 (by omega) (by kernel_rfl) (by kernel_rfl)
  have e11 : X 11 = _ := hI 11 (by omega) (by kernel_rfl) (by kernel_rfl)
  have y12 := hI 12 (by omega) (by kernel_rfl) (by kernel_rfl)
  rcases vs with _ | ⟨v0, _ | ⟨vz, vs⟩⟩
  ·simp at hlen
  rotate_left
  ·simp at hlen
  have e13 : X 13 = v0 := hX 0 13 (by simp) (by kernel_rfl)
  clear hX hI hlen
  simp only [overF, List.foldl_cons, List.foldl_nil, List.setIfInBounds_toArray, List.set_cons_succ, List.set_cons_zero, e8, e9, e10, e11, e13]
  obtain ⟨r, bm, n, cnt, hv5, hx5, hr5, hge5⟩ := hph
  clear e8 e9 e10 e11 e13 y12 hx0 HWA HDE
  subst hv5
  generalize w' = W4 at *
  have HR := hide hr5
  have HX5 := hide hx5
  have HGE := hide hge5
  clear hr5 hx5 hge5
  go_wp2_with fail
  go_loopw [5] (fun v5 wr => ∃ (lf : Int → Bool) (cnt1 : Nat) (m : Int), v5 = .int .i64 m ∧ MapR (Lit.int .i64) wr 3 bm r n (fun x => (lvF c id (depthC c) x).map (Value.int .i64)) lf cnt1 ∧ Hid ((∀ x, thereB c.S x = true → lf x = false → lvl (kidsG c) id (depthC c) x ≤ m) ∧ (m = 0 ∨ ∃ x, thereB c.S x = true ∧ m = lvl (kidsG c) id (depthC c) x) ∧ 0 ≤ m) ∧ Ext W wr) (fun _ wr => wr.rangeLeft bm r)
  case atStart =>
   refine ⟨_, cnt, 0, rfl, HR.out, hide ⟨fun x hx hl => ?_, .inl rfl, Int.le_refl 0⟩, HX5.out⟩
   rw [lvF_there hx] at hl
   cases hl
  case round =>
   obtain ⟨lf, cnt1, m, rfl, hr, hm, hext⟩ := hrel
   have HR1 := hide hr
   have HRL := hide hr.left_eq
   have HMX := hide hm.out
   have HE := hide hext
   clear hr hm hext HR HX5
   go_wp2_with (at_next; refine wpList_mr_next _ rfl _ rfl HR1.out rfl ?_ ?_)
   ·intro hc0 hl0
    have hms : m = mostS c.S (lvl (kidsG c) id (depthC c)) := by
     refine great_unique (fun x hx => ?_) ?_ HMX.out.2.2
     ·obtain ⟨s, hs, rfl⟩ := List.mem_map.1 hx
      have ht : thereB c.S s.id = true := List.any_eq_true.2 ⟨s, hs, by simp⟩
      exact HMX.out.1 s.id ht (hl0 _ (by have := HTEN.out _ ht; unfold I64; omega))
     ·rcases HMX.out.2.1 with h | ⟨x, hx, h⟩
      ·exact .inl h
      ·obtain ⟨h1, h2⟩ := findS_there hx
       exact .inr ⟨x, List.mem_map.2 ⟨_, h1, h2⟩, h⟩
    have hlo : loadC c id = if mirB c.R id = true then sumM m 1 else m := by unfold loadC; rw [← hms]
    obtain ⟨mb, hmb⟩ : ∃ b, mirB c.R id = b := ⟨_, rfl⟩
    rw [hmb] at hlo
    have hbd : m ≤ mostN := by
     rw [hms]
     exact great_le_of _ 0 (by decide) fun x _ => (lvl_bd _ _ _ x).2
    have HBD := hide (show 0 ≤ m ∧ m ≤ mostN from ⟨HMX.out.2.2, hbd⟩)
    have hfac : factC c id = partM (loadC c id) (1 + c.purse) := rfl
    rw [hlo] at hfac
    have HFAC := hide hfac
    clear hc0 hl0 hms hlo hbd HMX HR1 HRL hfac
    have q2 : wr.cell? ⟨b0, 2, none⟩ = some (.slice aR c.R.length cR) := cell_box (HBX.out wr HE.out) 2 _ HCR.out
    have q17 : ∀ X, Ext W X → X.cell? ⟨b0, 17, none⟩ = some (.int .i64 c.purse) := fun X hX => cell_box (HBX.out X hX) 17 _ rfl
    have HQ := hide q17
    have hb1l : b1 < wr.heap.size := World.block_lt_of_cell? wr _ (HB1.out wr HE.out)
    have hcon := conR_any c.R (fun r => decide (r.mi = id) && decide (r.mi ≠ 0)) 15 #[.pointer (some ⟨b1, 0, none⟩)] enters_mir (.slice aR c.R.length cR) wr (HRU.out.ext HE.out) (pred_mir id b1 wr hb1l (HB1.out wr HE.out))
    rw [show (c.R.any fun r => decide (r.mi = id) && decide (r.mi ≠ 0)) = mb from hmb] at hcon
    have HCON := hide hcon
    have hpu := HK.out.2.2.2.2.2
    have hwp : IntKind.i64.wrap (1 + c.purse) = 1 + c.purse := by rw [IntKind.wrap_i64]; omega
    have HPU := hide hpu
    clear q17 hb1l hcon hpu
    go_wp2_with fail
    refine HCON.out.mono ?_
    rintro e w5 ⟨rfl, E5⟩
    have HE5 := hide (HE.out.trans E5)
    clear q2 E5 HCON
    cases mb with
    | false =>
     have hf := HFAC.out
     rw [if_neg (by decide)] at hf
     have HF := hide hf
     have q17 := HQ.out w5 HE5.out
     have HP := hide (fpart_any m (1 + c.purse) w5 HBD.out (by have := HPU.out; omega))
     clear hf
     go_wp2_with fail
     refine HP.out.mono ?_
     rintro e w6 ⟨rfl, E6⟩
     have HZ := hide (HX.out.trans (HE5.out.trans E6))
     clear q17 E6
     go_wp2
     go_ret
     exact ⟨by rw [HF.out]; rfl, HZ.out⟩
    | true =>
     have hf := HFAC.out
     rw [if_pos rfl] at hf
     have HF := hide hf
     clear hf
     have hxa : Ext w5 (w5.alloc (.cells #[.int .i64 m, .int .i64 1] 3)) := (Below.refl _ _).alloc (Nat.le_refl _) _
     have HSU := hide (fsum_any [m, 1] _ _ (ints_lit2 w5 m 1) (fun x hx => by
      rcases List.mem_cons.1 hx with rfl | hx
      ·exact HBD.out
      ·rw [List.mem_singleton.1 hx]
       decide))
     have hst : sumL [m, 1] = sumM m 1 := sumL_two HBD.out
     rw [hst] at HSU
     have q17 := HQ.out _ (HE5.out.trans hxa)
     have hsb : 0 ≤ sumM m 1 ∧ sumM m 1 ≤ mostN := by have := HBD.out; unfold sumM; omega
     have HZ5 := hide (HX.out.trans (HE5.out.trans hxa))
     have HP := hide (fpart_any (sumM m 1) (1 + c.purse) (w5.alloc (.cells #[.int .i64 m, .int .i64 1] 3)) hsb (by have := HPU.out; omega))
     clear hst hsb hxa
     generalize sumM m 1 = t at HSU HP HF
     go_wp2_with fail
     refine HSU.out.mono ?_
     rintro e w6 ⟨rfl, hw6⟩
     subst hw6
     go_wp2_with fail
     refine HP.out.mono ?_
     rintro e w7 ⟨rfl, E7⟩
     have HZ := hide (HZ5.out.trans E7)
     clear q17 E7
     go_wp2
     go_ret
     exact ⟨by rw [HF.out]; rfl, HZ.out⟩
   ·intro x v w1 cnt2 hx6 hlx z0 hgx hv0 hr1 hlt1 hg1 hs1 hen
    subst hv0
    have hth : thereB c.S x = true := by
     cases hth : thereB c.S x with
     | true => rfl
     | false =>
      unfold lvF at hgx
      rw [hth] at hgx
      cases hgx
    rw [lvF_there hth] at hgx
    obtain rfl : lvl (kidsG c) id (depthC c) x = z0 := Option.some.inj hgx
    have HE1 := hide (Keeps.ext HE.out (Keeps.of_grown hg1 (X := fun q => q = r) (fun k hk => by cases hk; rfl)) (fun q hq => by have := HGE.out; omega))
    have hm2 : ∀ z, lvl (kidsG c) id (depthC c) x = z → (∀ y, thereB c.S y = true → (lf y && !decide (y = x)) = false → lvl (kidsG c) id (depthC c) y ≤ max m z) ∧ (max m z = 0 ∨ ∃ y, thereB c.S y = true ∧ max m z = lvl (kidsG c) id (depthC c) y) ∧ 0 ≤ max m z := fun z hz => by
     obtain ⟨a1, a2, a3⟩ := HMX.out
     refine ⟨fun y hy hly => ?_, ?_, by omega⟩
     ·by_cases e : y = x
      ·subst e
       omega
      ·have := a1 y hy (by simpa [e] using hly)
       omega
     ·by_cases hc : m ≤ z
      ·exact .inr ⟨x, hth, by rw [hz]; omega⟩
      ·rw [show max m z = m by omega]
       exact a2
    obtain ⟨z, hz⟩ : ∃ z, lvl (kidsG c) id (depthC c) x = z := ⟨_, rfl⟩
    have HM2 := hide (hm2 z hz)
    rw [hz] at hen ⊢
    have HR2 := hide hr1
    have HLT := hide hlt1
    clear hgx hr1 hg1 hs1 hm2 hlx hx6 hlt1 hz HR1 HMX HE hth
    go_wp2
    go_roundw
    case rel => exact ⟨_, cnt2, max m z, by first | rfl | go_num, HR2.out, hide HM2.out, HE1.out⟩
    case measure => rw [HR2.out.left_eq, HRL.out]; exact HLT.out
end Go.Proofs.YtmpciohmljpncaaGreatDoor
