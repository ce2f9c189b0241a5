/- Merged texts (GkO, GkP). -/
import Derived.Test.YtceaeiaoanhlnaaDoorGkN
namespace Go.Proofs.YtceaeiaoanhlnaaDoor
open Go.ChangeShapes Go.WideShapes Go.ChangeAt Go.RowKit Go.Lib Go.Shelf Go.Maps
theorem at_any {B : Nat} {W : World} {b0 ba bt bo bm : Nat} {c : ConfD} {U : List ByteArray} (cx : TCx B W b0 c U) : ∀ f, AtOk B W b0 ba bt bo bm c U f
 | 0 => fun _ _ _ _ _ hd => absurd hd id
 | f + 1 => at_step cx (at_any cx f)
theorem tm_start (W : World) (B b0 : Nat) (hB : W.heap.size = B) (c : ConfD) (U : List ByteArray) :
  ((((W.alloc (.map #[] 0)).alloc (.cells #[.map (some B)] 156)).alloc (.cells #[.nilFunc] 157)).alloc (.cells #[.func (.func 94) #[] #[.pointer (some ⟨b0, 0, none⟩), .pointer (some ⟨B + 1 + 1, 0, none⟩)]] 158)).heap[B + 1 + 1]? = some (.cells #[.nilFunc] 157 (0, 0)) ∧
  TM B (((((W.alloc (.map #[] 0)).alloc (.cells #[.map (some B)] 156)).alloc (.cells #[.nilFunc] 157)).alloc (.cells #[.func (.func 94) #[] #[.pointer (some ⟨b0, 0, none⟩), .pointer (some ⟨B + 1 + 1, 0, none⟩)]] 158)).setCell ⟨B + 1 + 1, 0, none⟩ (.func (.func 95) #[] #[.pointer (some ⟨B + 1, 0, none⟩), .pointer (some ⟨b0, 0, none⟩), .pointer (some ⟨B + 1 + 1 + 1, 0, none⟩)])) b0 (B + 1 + 1) (B + 1) (B + 1 + 1 + 1) B c U ∧
  Below B W (((((W.alloc (.map #[] 0)).alloc (.cells #[.map (some B)] 156)).alloc (.cells #[.nilFunc] 157)).alloc (.cells #[.func (.func 94) #[] #[.pointer (some ⟨b0, 0, none⟩), .pointer (some ⟨B + 1 + 1, 0, none⟩)]] 158)).setCell ⟨B + 1 + 1, 0, none⟩ (.func (.func 95) #[] #[.pointer (some ⟨B + 1, 0, none⟩), .pointer (some ⟨b0, 0, none⟩), .pointer (some ⟨B + 1 + 1 + 1, 0, none⟩)])) := by
 subst hB
 have e1 : Ext W (W.alloc (.map #[] 0)) := (Below.refl _ _).alloc (Nat.le_refl _) _
 have n1 := MapV.made litS W 9
 have z1 : (W.alloc (.map #[] 0)).heap.size = W.heap.size + 1 := by simp
 generalize W.alloc (.map #[] 0) = W1 at *
 have e2 : Ext W1 (W1.alloc (.cells #[.map (some W.heap.size)] 156)) := (Below.refl _ _).alloc (Nat.le_refl _) _
 have n2 := heap_alloc_new W1 (.cells #[.map (some W.heap.size)] 156)
 have z2 : (W1.alloc (.cells #[.map (some W.heap.size)] 156)).heap.size = W.heap.size + 1 + 1 := by simp [z1]
 rw [z1] at n2
 generalize W1.alloc (.cells #[.map (some W.heap.size)] 156) = W2 at *
 have e3 : Ext W2 (W2.alloc (.cells #[.nilFunc] 157)) := (Below.refl _ _).alloc (Nat.le_refl _) _
 have n3 := heap_alloc_new W2 (.cells #[.nilFunc] 157)
 have z3 : (W2.alloc (.cells #[.nilFunc] 157)).heap.size = W.heap.size + 1 + 1 + 1 := by simp [z2]
 rw [z2] at n3
 generalize W2.alloc (.cells #[.nilFunc] 157) = W3 at *
 have e4 : Ext W3 (W3.alloc (.cells #[.func (.func 94) #[] #[.pointer (some ⟨b0, 0, none⟩), .pointer (some ⟨W.heap.size + 1 + 1, 0, none⟩)]] 158)) := (Below.refl _ _).alloc (Nat.le_refl _) _
 have n4 := heap_alloc_new W3 (.cells #[.func (.func 94) #[] #[.pointer (some ⟨b0, 0, none⟩), .pointer (some ⟨W.heap.size + 1 + 1, 0, none⟩)]] 158)
 rw [z3] at n4
 generalize W3.alloc (.cells #[.func (.func 94) #[] #[.pointer (some ⟨b0, 0, none⟩), .pointer (some ⟨W.heap.size + 1 + 1, 0, none⟩)]] 158) = W4 at *
 have m3 : W4.heap[W.heap.size + 1 + 1]? = some (.cells #[.nilFunc] 157 (0, 0)) := (e4.block _ (by omega)).trans n3
 have m2 : W4.heap[W.heap.size + 1]? = some (.cells #[.map (some W.heap.size)] 156 (0, 0)) := ((e3.trans e4).block _ (by omega)).trans n2
 have hS := Keeps.of_set (X := fun q => q = W.heap.size + 1 + 1) W4 (W.heap.size + 1 + 1) 0 (.func (.func 95) #[] #[.pointer (some ⟨W.heap.size + 1, 0, none⟩), .pointer (some ⟨b0, 0, none⟩), .pointer (some ⟨W.heap.size + 1 + 1 + 1, 0, none⟩)]) rfl
 have hE := e1.trans (e2.trans (e3.trans e4))
 have hm : MapV litS (W4.setCell ⟨W.heap.size + 1 + 1, 0, none⟩ (.func (.func 95) #[] #[.pointer (some ⟨W.heap.size + 1, 0, none⟩), .pointer (some ⟨b0, 0, none⟩), .pointer (some ⟨W.heap.size + 1 + 1 + 1, 0, none⟩)])) 9 W.heap.size 0 (fun _ => none) := (n1.ext (e2.trans (e3.trans e4))).keepB (hS.block _ (by have := (e2.trans (e3.trans e4)).size; omega) (by omega))
 have hB := hS.below (B := W.heap.size) hE.size (fun q hq => by omega)
 refine ⟨m3, ⟨by omega, by omega, by omega, Nat.le_refl _, Nat.le_trans hE.size hS.size, ?_, (hS.block _ (Array.getElem?_eq_some_iff.1 m2).1 (by omega)).trans m2, (hS.block _ (Array.getElem?_eq_some_iff.1 n4).1 (by omega)).trans n4, fun _ => none, ?_, fun q z hz => by cases hz⟩, Below.trans (show Below W.heap.size W W4 from hE) hB⟩
 ·have := ArrB.set m3 0 (.func (.func 95) #[] #[.pointer (some ⟨W.heap.size + 1, 0, none⟩), .pointer (some ⟨b0, 0, none⟩), .pointer (some ⟨W.heap.size + 1 + 1 + 1, 0, none⟩)])
  simpa using this
 ·exact (hm.mono (Nat.zero_le _)).congr fun q => rfl
set_option maxRecDepth 100000 in
set_option maxHeartbeats 8000000 in
theorem timeof_any (c : ConfD) (p : ByteArray) (w : World) (h : GC w c) (hp : SzB p) (hd : Deep c (c.S.length + 1) p) :
  Calls Tryd.prog 65 #[.agg (encC c).toArray, .string p] w fun e w' => e = .returned (.int .i64 (timeC c p)) ∧ Ext w w' := by
 have hmm := @run_makeMap Tryd.prog
 have hx : Ext w (w.alloc (.cells (encC c).toArray 60)) := (Below.refl _ _).alloc (Nat.le_refl _) _
 have hb1 := heap_alloc_new w (.cells (encC c).toArray 60)
 have hg := h.ext hx
 have hz : ∀ q ∈ p :: allK c, SzB q := fun q hq => by
  rcases List.mem_cons.1 hq with rfl | hq
  ·exact hp
  ·exact kids_sz h q hq
 have hul : (p :: allK c).length ≤ 2000 := by have := allK_len h.chk; simp; omega
 have HD := hide hd
 clear h hp hd
 go_enter Tryd.func65, Tryd.ntmps65
 go_upto_region 1 with (fail)
 show Code.wp _ _ _ _ (w.alloc (.cells (encC c).toArray 60))
 generalize w.alloc (.cells (encC c).toArray 60) = W at hx hb1 hg ⊢
 have HX := hide hx
 obtain ⟨b0, hb0⟩ : ∃ b, w.heap.size = b := ⟨_, rfl⟩
 rw [hb0] at hb1 ⊢
 obtain ⟨B, hB⟩ : ∃ B, W.heap.size = B := ⟨_, rfl⟩
 have HCX := hide (show TCx B W b0 c (p :: allK c) from ⟨hg, by omega, hb1, fun k hk => List.mem_cons_of_mem _ hk, hz, hul⟩)
 clear hx hb1 hg hz hul hb0
 go_upto_region 4 with (fail)
 have hst := tm_start W B b0 hB c (p :: allK c)
 show Code.wp _ _ _ _ ((((W.alloc (.map #[] 0)).alloc (.cells #[.map (some B)] 156)).alloc (.cells #[.nilFunc] 157)).alloc (.cells #[.func (.func 94) #[] #[.pointer (some ⟨b0, 0, none⟩), .pointer (some ⟨B + 1 + 1, 0, none⟩)]] 158))
 generalize ((((W.alloc (.map #[] 0)).alloc (.cells #[.map (some B)] 156)).alloc (.cells #[.nilFunc] 157)).alloc (.cells #[.func (.func 94) #[] #[.pointer (some ⟨b0, 0, none⟩), .pointer (some ⟨B + 1 + 1, 0, none⟩)]] 158)) = W4 at hst ⊢
 obtain ⟨m3, htm, hbw⟩ := hst
 have c3 : W4.cell? ⟨B + 1 + 1, 0, none⟩ = some .nilFunc := by simp [World.cell?, m3]
 have z3 : W4.frozen? ⟨B + 1 + 1, 0, none⟩ = false := by simp [World.frozen?, m3]
 have HTM := hide htm
 have HBW := hide hbw
 have HB0 := hide hB
 clear htm hbw m3 hB
 go_upto_region 5 with (fail)
 generalize W4.setCell _ _ = W5 at HTM HBW ⊢
 clear c3 z3
 have c5 : W5.cell? ⟨B + 1 + 1, 0, none⟩ = some (.func (.func 95) #[] #[.pointer (some ⟨B + 1, 0, none⟩), .pointer (some ⟨b0, 0, none⟩), .pointer (some ⟨B + 1 + 1 + 1, 0, none⟩)]) := by simp [World.cell?, HTM.out.fa]
 have HC := hide (at_any HCX.out (c.S.length + 1) p W5 HTM.out HBW.out (List.mem_cons_self ..) HD.out)
 go_wp2_with (go_at_call 95; refine HC.out.mono ?_; rintro e w6 ⟨rfl, htm6, hk6⟩; have HZ := hide (HX.out.trans ((HTM.out.below HBW.out hk6).mono HCX.out.hW)); clear htm6 hk6)
 go_ret
 exact ⟨rfl, HZ.out⟩
end Go.Proofs.YtceaeiaoanhlnaaDoor
namespace Go.Proofs.YtceaeiaoanhlnaaDoor
open Go.ChangeShapes Go.WideShapes Go.ChangeAt Go.RowKit Go.Lib Go.Shelf Go.Maps
theorem great_at {c : ConfD} (tgt : Int) (d : Nat) {l : List Int} (hl : ∀ x ∈ l, thereB c.S x = true) : great l (fun x => (lvF c tgt d x).getD 0) = great l (lvl (kidsG c) tgt d) :=
 great_congr l 0 fun x hx => by rw [lvF_there (hl x hx)]; rfl
set_option maxRecDepth 100000 in
set_option maxHeartbeats 16000000 in
theorem room_any (c : ConfD) (p : ByteArray) (w : World) (h : GC w c) (hp : SzB p) :
  Calls Tryd.prog 66 #[.agg (encC c).toArray, .string p] w fun e w' => e = .returned (.bool (roomB c p)) ∧ Ext w w' := by
 obtain ⟨cd, hcd1, hcd2⟩ := Tryd.confDesc
 obtain ⟨dv, hd1, hd2⟩ := Tryd.svcDesc
 have hx : Ext w (w.alloc (.cells (encC c).toArray 60)) := (Below.refl _ _).alloc (Nat.le_refl _) _
 have hb1 := heap_alloc_new w (.cells (encC c).toArray 60)
 obtain ⟨hl', aS, cS, hvS⟩ := h.s.shape
 have HSV := hide (show Svcs (w.alloc (.cells (encC c).toArray 60)) (.slice aS c.S.length cS) c.S by rw [← hvS]; exact h.s.ext hx)
 have HCS := hide (show (encC c)[0]? = some (.slice aS c.S.length cS) by rw [← hvS]; rfl)
 have HTA := hide (targetsG_any c p _ (h.ext hx) hp)
 have HTL := hide (targ_len h.chk p)
 have HTF := hide (targ_fit h.chk p)
 have HTH := hide (fun x (hx : x ∈ bothP c.R p) => lead_there (chk_lead h.chk) hx)
 have HSL := hide (chk_S h.chk)
 have HNU := hide (chk_num h.chk)
 have HTEN := hide (fun x (hx : thereB c.S x = true) => there_ten h.chk hx)
 have HKS := hide (ksh_of h)
 have hg := h.ext hx
 have HAB := hide (show ∀ x, x ∈ targS c.R p ∨ x ∈ targC c.R p → x ∈ bothP c.R p from fun x hx => List.mem_append.2 hx)
 have HCN := hide (show ∀ s, roomS c p s = (decide ((targC c.R p).foldl (fun n x => sumM n (lvl (kidsG c) s.id 10 x)) (great (targS c.R p) (lvl (kidsG c) s.id 10)) ≤ s.queue) && decide ((targC c.R p).foldl (fun n x => sumM n (lvl (kidsG c) s.id 10 x)) (great (targS c.R p) (lvl (kidsG c) s.id 10)) ≤ c.low + c.wait)) from fun s => rfl)
 unfold roomB
 clear h hp hvS hl'
 go_enter Tryd.func66, Tryd.ntmps66
 go_upto_region 1 with (fail)
 show Code.wp _ _ _ _ (w.alloc (.cells (encC c).toArray 60))
 generalize w.alloc (.cells (encC c).toArray 60) = W at hx hb1 hg HSV HTA ⊢
 have HX := hide hx
 obtain ⟨b0, hb0⟩ : ∃ b, w.heap.size = b := ⟨_, rfl⟩
 rw [hb0] at hb1 ⊢
 have HBX := hide (fun X (hX : Ext W X) => (hX.block b0 (Array.getElem?_eq_some_iff.1 hb1).1).trans hb1)
 have HG := hide (fun (X : World) (hX : Ext W X) => hg.ext hX)
 clear hx hb0 hg
 refine wp_region_lit ?_
 refine wpList_load_mid rfl 60 (.tmp 2) rfl b0 0 rfl (encC c) cd (range_box hb1) hcd1 hcd2 Tryd.confSize ?_
 clear hb1
 refine wpList_plain rfl fun Kq hKq => ?_
 go_simp
 refine hKq _ _ ?_
 refine wpList_plain rfl fun Kq hKq => ?_
 go_simp
 refine HTA.out.mono ?_
 rintro e w1 ⟨v1, v2, rfl, hts⟩
 refine hKq _ _ ?_
 clear hKq Kq HTA
 generalize targS c.R p = A at *
 generalize targC c.R p = C at *
 obtain ⟨a4, c4, rfl⟩ := owns_shape hts.s
 obtain ⟨a5, c5, rfl⟩ := owns_shape hts.c
 have HIA := hide (Sl.of_own' (enc := encI) (fun _ => rfl) hts.s : Ints w1 (.slice a4 A.length c4) A)
 have HIC := hide (Sl.of_own' (enc := encI) (fun _ => rfl) hts.c : Ints w1 (.slice a5 C.length c5) C)
 have HE1 := hide hts.ext
 clear hts
 refine wpList_plain rfl fun Kq hKq => ?_
 go_simp
 refine hKq _ _ ?_
 refine wpList_plain rfl fun Kq hKq => ?_
 go_simp
 refine hKq _ _ ?_
 refine wpList_plain rfl fun Kq hKq => ?_
 go_simp
 refine hKq _ _ ?_
 refine wpList_plain rfl fun Kq hKq => ?_
 go_simp
 refine hKq _ _ ?_
 refine wpList_plain rfl fun Kq hKq => ?_
 go_simp
 refine hKq _ _ ?_
 refine wpList_nil ?_
 have c0 : w1.cell? ⟨b0, 0, none⟩ = some (.slice aS c.S.length cS) := cell_box (HBX.out w1 HE1.out) 0 _ HCS.out
 go_wp2_with fail
 clear c0
 go_loopw [22] (fun v22 wr => ∃ k : Nat, k ≤ c.S.length ∧ v22 = .int .i64 k ∧ Hid ((c.S.take k).all (roomS c p) = true) ∧ Ext w1 wr) (fun k _ => c.S.length - (intOf k).toNat)
 case atStart => exact ⟨0, Nat.zero_le _, rfl, hide rfl, Below.refl _ _⟩
 case round =>
  obtain ⟨k, hk, rfl, hal, hext⟩ := hrel
  have HAL := hide hal.out
  have HE := hide hext
  clear hal hext
  by_cases hlt : k < c.S.length
  ·have hltz : (k : Int) < c.S.length := by omega
   have hwk : IntKind.i64.wrap ((k : Int) + 1) = ((k + 1 : Nat) : Int) := by have := HSL.out; rw [IntKind.wrap_i64]; omega
   obtain ⟨b, off, rfl, hbb, hr⟩ := svcs_row (HSV.out.ext (HE1.out.trans HE.out)) k hlt
   obtain ⟨ka, kn, kc, hkv⟩ := HKS.out c.S[k] (List.getElem_mem hlt)
   have hth : thereB c.S c.S[k].id = true := List.any_eq_true.2 ⟨_, List.getElem_mem hlt, by simp⟩
   have hid : I64 c.S[k].id := by have := HTEN.out _ hth; unfold I64; omega
   have hsn : (c.S.take (k + 1)).all (roomS c p) = ((c.S.take k).all (roomS c p) && roomS c p c.S[k]) := by rw [take_snoc c.S k hlt, List.all_append]; simp
   rw [HAL.out, Bool.true_and, HCN.out] at hsn
   have hno : roomS c p c.S[k] = false → c.S.all (roomS c p) = false := fun h => by
    rw [List.all_eq_false]
    exact ⟨_, List.getElem_mem hlt, by rw [h]; decide⟩
   rw [HCN.out] at hno
   generalize c.S[k] = s at hr hkv hid hsn hno
   clear hth
   go_upto_region 4 with (fail)
   refine wp_region_lit ?_
   refine wpList_plain rfl fun Kq hKq => ?_
   go_simp
   refine hKq _ _ ?_
   refine wpList_load_mid rfl 70 (.tmp 24) rfl b (off + k * 7) rfl (encV s) dv hr hd1 hd2 Tryd.svcSize ?_
   refine wpList_box rfl 70 rfl rfl (.tmp 8) (.tmp 25) rfl (encV s) _ allocV rfl rfl rfl Tryd.svcSize (encV_ones hkv) fun W3 hb3 E3 => ?_
   refine wpList_nil ?_
   simp only [Act.put, List.setIfInBounds_toArray, List.set_cons_succ, List.set_cons_zero]
   obtain ⟨g, hg⟩ : ∃ g, wr.heap.size = g := ⟨_, rfl⟩
   rw [hg] at hb3 ⊢
   have d0 : W3.cell? ⟨g, 0, none⟩ = some (.int .i64 s.id) := cell_box hb3 0 _ rfl
   have HQC := hide (fun (Y : World) (hY : Ext W3 Y) => cell_box ((hY.block g (Array.getElem?_eq_some_iff.1 hb3).1).trans hb3) 4 (.int .i64 s.queue) rfl)
   have HE3 := hide (HE.out.trans E3)
   have HSN := hide hsn
   have HNO := hide hno
   clear hb3 E3 hg hr hkv hsn hno
   obtain ⟨sid, hsid⟩ : ∃ z, s.id = z := ⟨_, rfl⟩
   obtain ⟨sq, hsq⟩ : ∃ z, s.queue = z := ⟨_, rfl⟩
   simp only [hsid, hsq] at d0 HQC HSN HNO hid
   clear hsid hsq
   have HID := hide hid
   have HWA := hide (walks_any c sid 10 W3 (HG.out W3 (HE1.out.trans HE3.out)) hid (by decide))
   clear hid
   go_upto_region 5 with (fail)
   refine wp_region_lit ?_
   refine wpList_load_mid rfl 60 (.tmp 2) rfl b0 0 rfl (encC c) cd (range_box (HBX.out W3 (HE1.out.trans HE3.out))) hcd1 hcd2 Tryd.confSize ?_
   refine wpList_plain rfl fun Kq hKq => ?_
   go_simp
   refine hKq _ _ ?_
   refine wpList_plain rfl fun Kq hKq => ?_
   go_simp
   refine hKq _ _ ?_
   refine wpList_plain rfl fun Kq hKq => ?_
   go_simp
   refine HWA.out.mono ?_
   rintro e w4 ⟨bm, rfl, ⟨nm, him⟩, E4⟩
   refine hKq _ _ ?_
   clear hKq Kq HWA d0
   have HIM := hide him
   have HE4 := hide (HE3.out.trans E4)
   have HQC4 := hide (fun (Y : World) (hY : Ext w4 Y) => HQC.out Y (E4.trans hY))
   have hgr := greatest_any A _ bm nm (lvF c sid 10) w4 (HIA.out.ext HE4.out) (fun x hx => by have := HTF.out x (HAB.out x (.inl hx)); unfold I64; omega) him
   rw [great_at sid 10 fun x hx => HTH.out x (HAB.out x (.inl hx))] at hgr
   obtain ⟨gr, hgre⟩ : ∃ z, great A (lvl (kidsG c) sid 10) = z := ⟨_, rfl⟩
   have hgb : 0 ≤ gr ∧ gr ≤ mostN := by rw [← hgre]; exact great_bd fun z => (lvl_bd _ _ _ z).2
   simp only [hgre] at hgr HSN HNO
   have HGR := hide hgr
   have HGB := hide hgb
   clear him E4 hgr hgb hgre HQC
   refine wpList_plain rfl fun Kq hKq => ?_
   go_simp
   refine hKq _ _ ?_
   refine wpList_nil ?_
   go_wp2_with fail
   refine HGR.out.mono ?_
   rintro e w5 ⟨rfl, hw5⟩
   subst hw5
   go_wp2_with fail
   go_loopw [10, 35] (fun v10 v35 wr => ∃ (j : Nat) (n : Int), j ≤ C.length ∧ v35 = .int .i64 j ∧ v10 = .int .i64 n ∧ Hid (n = (C.take j).foldl (fun n x => sumM n (lvl (kidsG c) sid 10 x)) gr ∧ 0 ≤ n ∧ n ≤ mostN) ∧ Ext w4 wr) (fun _ j _ => C.length - (intOf j).toNat)
   case atStart => exact ⟨0, gr, Nat.zero_le _, rfl, rfl, hide ⟨rfl, HGB.out⟩, Below.refl _ _⟩
   case round =>
    obtain ⟨j, n, hj, rfl, rfl, hn, hext⟩ := hrel
    have HN := hide hn.out
    have HEJ := hide hext
    clear hn hext
    by_cases hltj : j < C.length
    ·have hltjz : (j : Int) < C.length := by omega
     have hwj : IntKind.i64.wrap ((j : Int) + 1) = ((j + 1 : Nat) : Int) := by have := HTL.out; rw [IntKind.wrap_i64]; omega
     obtain ⟨pb, po, rfl, hpb, y0⟩ := ints_row (HIC.out.ext (HE4.out.trans HEJ.out)) j hltj
     have hst : (C.take (j + 1)).foldl (fun n x => sumM n (lvl (kidsG c) sid 10 x)) gr = sumM ((C.take j).foldl (fun n x => sumM n (lvl (kidsG c) sid 10 x)) gr) (lvl (kidsG c) sid 10 C[j]) := by rw [take_snoc C j hltj, List.foldl_append]; rfl
     rw [← HN.out.1] at hst
     have hcm := HAB.out _ (.inr (List.getElem_mem hltj))
     generalize C[j] = x at y0 hst hcm
     have hx6 : I64 x := by have := HTF.out x hcm; unfold I64; omega
     have q1 : (Instr.lookup 92 (.map (some bm)) (.int .i64 x) false).run Tryd.prog wr = .ok (.int .i64 (lvl (kidsG c) sid 10 x)) wr := by
      have q := (HIM.out.ext HEJ.out).look keyedI Tryd.underlying92 (zeroI wr) (keyIn hx6)
      rw [lvF_there (HTH.out x hcm)] at q
      simpa using q
     have htb := lvl_bd (kidsG c) sid 10 x
     generalize lvl (kidsG c) sid 10 x = t at hst q1 htb
     have HST := hide hst
     have HT := hide htb
     have hxa : Ext wr (wr.alloc (.cells #[.int .i64 n, .int .i64 t] 3)) := (Below.refl _ _).alloc (Nat.le_refl _) _
     have HSU := hide (fsum_any [n, t] _ _ (ints_lit2 wr n t) (fun x hx => by
      rcases List.mem_cons.1 hx with rfl | hx
      ·exact HN.out.2
      ·rw [List.mem_singleton.1 hx]
       exact HT.out))
     have hst2 : sumL [n, t] = sumM n t := sumL_two HN.out.2
     rw [hst2] at HSU
     have HEA := hide (HEJ.out.trans hxa)
     clear hst htb hst2 hxa hcm hx6
     go_wp2_with fail
     refine HSU.out.mono ?_
     rintro e w6 ⟨rfl, hw6⟩
     subst hw6
     clear HSU q1 y0
     have HS2 := hide (show sumM n t = (C.take (j + 1)).foldl (fun n x => sumM n (lvl (kidsG c) sid 10 x)) gr ∧ 0 ≤ sumM n t ∧ sumM n t ≤ mostN from ⟨HST.out.symm, sumM_bd HN.out.2.1 HT.out.1⟩)
     generalize sumM n t = n2 at *
     go_wp2
     go_roundw
     case rel => exact ⟨j + 1, n2, hltj, by go_num, rfl, hide HS2.out, HEA.out⟩
     case measure => simp [intOf]; omega
    ·obtain rfl : j = C.length := by omega
     have hltjz : ¬ (C.length : Int) < C.length := by omega
     have hr := HN.out.1
     rw [List.take_length] at hr
     have hsn := HSN.out
     have hno := HNO.out
     rw [← hr] at hsn hno
     have hnu := HNU.out
     have qq := HQC4.out wr HEJ.out
     have q12 : wr.cell? ⟨b0, 12, none⟩ = some (.int .i64 c.low) := cell_box (HBX.out wr (HE1.out.trans (HE4.out.trans HEJ.out))) 12 _ rfl
     have q14 : wr.cell? ⟨b0, 14, none⟩ = some (.int .i64 c.wait) := cell_box (HBX.out wr (HE1.out.trans (HE4.out.trans HEJ.out))) 14 _ rfl
     obtain ⟨low, hlow⟩ : ∃ z, c.low = z := ⟨_, rfl⟩
     obtain ⟨wait, hwait⟩ : ∃ z, c.wait = z := ⟨_, rfl⟩
     rw [hlow] at q12
     rw [hwait] at q14
     rw [hlow, hwait] at hsn hno
     rw [hlow, hwait] at hnu
     have hwl : IntKind.i64.wrap (low + wait) = low + wait := by rw [IntKind.wrap_i64]; omega
     have HSN2 := hide hsn
     have HNO2 := hide hno
     have HZ := hide (HX.out.trans (HE1.out.trans (HE4.out.trans HEJ.out)))
     have HZ1 := hide (HE4.out.trans HEJ.out)
     clear hr hsn hno hnu hlow hwait HSN HNO
     by_cases h1 : n > sq
     ·have hf := HNO2.out (by rw [decide_eq_false (by omega)]; rfl)
      have HF := hide hf
      clear hf
      go_wp2
      go_ret
      exact ⟨by rw [HF.out]; rfl, HZ.out⟩
     ·by_cases h2 : n > low + wait
      ·have hf := HNO2.out (by rw [decide_eq_false (show ¬ n ≤ low + wait by omega), Bool.and_false])
       have HF := hide hf
       clear hf
       go_wp2
       go_ret
       exact ⟨by rw [HF.out]; rfl, HZ.out⟩
      ·have hs := HSN2.out
       rw [decide_eq_true (show n ≤ sq by omega), decide_eq_true (show n ≤ low + wait by omega)] at hs
       have HS2 := hide (show (c.S.take (k + 1)).all (roomS c p) = true from hs)
       clear hs
       go_wp2
       go_roundw
       case rel => exact ⟨k + 1, hlt, by go_num, hide HS2.out, HZ1.out⟩
       case measure => simp [intOf]; omega
  ·obtain rfl : k = c.S.length := by omega
   have hltz : ¬ (c.S.length : Int) < c.S.length := by omega
   have hf := HAL.out
   rw [List.take_length] at hf
   have HF := hide hf
   have HZ := hide (HX.out.trans (HE1.out.trans HE.out))
   clear hf
   go_wp2
   go_ret
   exact ⟨by rw [HF.out]; rfl, HZ.out⟩
end Go.Proofs.YtceaeiaoanhlnaaDoor
