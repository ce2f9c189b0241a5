import Derived.Test.YtmpciohmljpncaaGreatDoorZgd
namespace Go.Proofs.YtmpciohmljpncaaGreatDoor
open Go.ChangeShapes Go.WideShapes Go.ChangeAt Go.RowKit Go.Lib Go.Shelf Go.Maps
set_option maxRecDepth 100000 in
theorem frame88 (x : Nat → Value) : frameOf 88 x = #[x 0, x 1, x 2, x 3, x 4, x 5, x 6, x 7, x 8, x 9, x 10, x 11, x 12, x 13, x 14, x 15, x 16, x 17, x 18, x 19, x 20, x 21, x 22, x 23, x 24, x 25, x 26, x 27, x 28, x 29, x 30, x 31, x 32, x 33, x 34, x 35, x 36, x 37, x 38, x 39, x 40, x 41, x 42, x 43, x 44, x 45, x 46, x 47, x 48, x 49, x 50, x 51, x 52, x 53, x 54, x 55, x 56, x 57, x 58, x 59, x 60, x 61, x 62, x 63, x 64, x 65, x 66, x 67, x 68, x 69, x 70, x 71, x 72, x 73, x 74, x 75, x 76, x 77, x 78, x 79, x 80, x 81, x 82, x 83, x 84, x 85, x 86, x 87] := rfl
set_option maxRecDepth 100000 in
set_option maxHeartbeats 32000000 in
/-- how many calls of a service one call makes, of all services that are there -/
theorem walks_any (c : ConfD) (tgt : Int) (d : Nat) (w : World) (h : GC w c) (ht : I64 tgt) (hd : d ≤ 1000000) :
  Calls Tryz.prog 12 #[.agg (encC c).toArray, .int .i64 tgt, .int .i64 (d : Int)] w fun e w' => ∃ b, e = .returned (.map (some b)) ∧ (∃ n, IM w' b n (lvF c tgt d)) ∧ Ext w w' := by
 obtain ⟨cd, hcd1, hcd2⟩ := Tryz.confDesc
 obtain ⟨dv, hd1, hd2⟩ := Tryz.svcDesc
 have hmm := @run_makeMap Tryz.prog
 have hx : Ext w (w.alloc (.cells (encC c).toArray 30)) := (Below.refl _ _).alloc (Nat.le_refl _) _
 have hb1 := heap_alloc_new w (.cells (encC c).toArray 30)
 obtain ⟨hl', aS, cS, hvS⟩ := h.s.shape
 have HSV := hide (show Svcs (w.alloc (.cells (encC c).toArray 30)) (.slice aS c.S.length cS) c.S by rw [← hvS]; exact h.s.ext hx)
 have HCS := hide (show (encC c)[0]? = some (.slice aS c.S.length cS) by rw [← hvS]; rfl)
 have hg := h.ext hx
 have HSL := hide (chk_S h.chk)
 have HLD := hide (chk_lead h.chk)
 have HTEN := hide (fun x (hx : thereB c.S x = true) => there_ten h.chk hx)
 have HKL := hide (fun x => (by rw [kidsG_eq, List.length_append, List.length_map]; have h1 := find_kids h.chk x; have h2 := lastG_len h.chk (findS c.S x).K; omega : (kidsG c x).length ≤ 84))
 have HKS := hide (ksh_of h)
 have HD := hide hd
 have HT := hide ht
 clear h hd ht hvS hl'
 go_enter Tryz.func12, Tryz.ntmps12
 go_upto_region 1 with (fail)
 show Code.wp _ _ _ _ (w.alloc (.cells (encC c).toArray 30))
 generalize w.alloc (.cells (encC c).toArray 30) = W at hx hb1 hg HSV ⊢
 have HX := hide hx
 obtain ⟨b0, hb0⟩ : ∃ b, w.heap.size = b := ⟨_, rfl⟩
 rw [hb0] at hb1 ⊢
 have HBX := hide (fun X (hX : Ext W X) => (hX.block b0 (Array.getElem?_eq_some_iff.1 hb1).1).trans hb1)
 have HG := hide (fun (X : World) (hX : Ext W X) => hg.ext hX)
 clear hx hb1 hg
 go_upto_region 2 with (fail)
 have hm1 := MapV.made (Lit.int .i64) W 3
 have hx1 : Ext W (W.alloc (.map #[] 0)) := (Below.refl _ _).alloc (Nat.le_refl _) _
 show Code.wp _ _ _ _ (W.alloc (.map #[] 0))
 obtain ⟨bk, hbk⟩ : ∃ b, W.heap.size = b := ⟨_, rfl⟩
 have hsz : (W.alloc (.map #[] 0)).heap.size = bk + 1 := by rw [← hbk]; simp
 rw [hbk] at hm1 ⊢
 generalize W.alloc (.map #[] 0) = W1 at hm1 hx1 hsz ⊢
 have HSZ1 := hide hsz
 have HBK0 := hide hbk
 clear hsz hbk
 go_upto_region 3 with (fail)
 have hm2 := MapV.made (Lit.int .i64) W1 3
 have hx2 : Ext W1 (W1.alloc (.map #[] 0)) := (Below.refl _ _).alloc (Nat.le_refl _) _
 show Code.wp _ _ _ _ (W1.alloc (.map #[] 0))
 obtain ⟨bn, hbn⟩ : ∃ b, W1.heap.size = b := ⟨_, rfl⟩
 rw [hbn] at hm2 ⊢
 generalize W1.alloc (.map #[] 0) = W2 at hm2 hx2 ⊢
 have HKW0 := hide (show KW W W2 bk bn 0 0 c tgt from ⟨hx1.trans hx2, ⟨_, hm1.ext hx2, fun x => rfl, fun x v hv => by cases hv⟩, hm2.congr fun z => rfl⟩)
 have HBK := hide (show W.heap.size ≤ bk by have := HBK0.out; omega)
 have HBN := hide (show W.heap.size ≤ bn by have := HBK0.out; have := HSZ1.out; omega)
 have HNE := hide (show bn ≠ bk by have := HSZ1.out; omega)
 have c0 : W2.cell? ⟨b0, 0, none⟩ = some (.slice aS c.S.length cS) := cell_box (HBX.out W2 (hx1.trans hx2)) 0 _ HCS.out
 clear hm1 hm2 hx1 hx2 hbn HSZ1 HBK0
 go_wp2_with fail
 clear c0
 go_loopw [22] (fun v22 wr => ∃ k : Nat, k ≤ c.S.length ∧ v22 = .int .i64 k ∧ KW W wr bk bn k k c tgt) (fun k _ => c.S.length - (intOf k).toNat)
 case atStart => exact ⟨0, Nat.zero_le _, rfl, HKW0.out⟩
 case round =>
  obtain ⟨k, hk, rfl, hkw⟩ := hrel
  have HKR := hide hkw
  clear hkw HKW0
  by_cases hlt : k < c.S.length
  ·have hltz : (k : Int) < c.S.length := by omega
   have hwk : IntKind.i64.wrap ((k : Int) + 1) = ((k + 1 : Nat) : Int) := by have := HSL.out; rw [IntKind.wrap_i64]; omega
   obtain ⟨b, off, rfl, hbb, hr⟩ := svcs_row (HSV.out.ext HKR.out.ext) k hlt
   obtain ⟨ka, kn, kc, hkv⟩ := HKS.out c.S[k] (List.getElem_mem hlt)
   have hth : thereB c.S c.S[k].id = true := List.any_eq_true.2 ⟨_, List.getElem_mem hlt, by simp⟩
   have hid : I64 c.S[k].id := by have := HTEN.out _ hth; unfold I64; omega
   obtain ⟨s, hs⟩ : ∃ s, c.S[k] = s := ⟨_, rfl⟩
   have HSID := hide (show c.S[k].id = s.id by rw [hs])
   rw [hs] at hr hkv hid
   clear hth hs
   go_upto_region 5 with (fail)
   refine wp_region_lit ?_
   refine wpList_plain rfl fun Kq hKq => ?_
   go_simp
   refine hKq _ _ ?_
   refine wpList_load_mid rfl 35 (.tmp 24) rfl b (off + k * 7) rfl (encV s) dv hr hd1 hd2 Tryz.svcSize ?_
   refine wpList_box rfl 35 rfl rfl (.tmp 10) (.tmp 25) rfl (encV s) _ allocV rfl rfl rfl Tryz.svcSize (encV_ones hkv) fun W3 hb3 E3 => ?_
   refine wpList_nil ?_
   simp only [Act.put, List.setIfInBounds_toArray, List.set_cons_succ, List.set_cons_zero]
   obtain ⟨g, hg⟩ : ∃ g, wr.heap.size = g := ⟨_, rfl⟩
   rw [hg] at hb3 ⊢
   have HB3 := hide hb3
   have HBG := hide (fun (Y : World) (hY : Ext W3 Y) => cell_box ((hY.block g (Array.getElem?_eq_some_iff.1 hb3).1).trans hb3) 0 _ rfl)
   have hk3 := HKR.out.to E3
   have HKW := hide hk3
   obtain ⟨gk, hkm, hg2, hg3⟩ := hk3.km
   have HKM := hide hkm
   have HG2 := hide hg2
   have HG3 := hide hg3
   obtain ⟨sid, hsid⟩ : ∃ z, s.id = z := ⟨_, rfl⟩
   simp only [encV, hsid] at HBG
   rw [hsid] at HSID hid
   have HSI := hide hsid
   have HID := hide hid
   clear hb3 hk3 hkm hg2 hg3 hr hg E3 hid HKR
   go_upto_region 6 with (fail)
   refine wp_region_rw 88 [6, 7] [26, 27, 28, 29, 30, 31, 32] (PhK W3 bk k gk sid (kidsG c sid)) (fun (t : Nat) (wI : World) (v : Value) => match t with | 26 => v = (.map (some bk)) | 27 => v = (.pointer (some ⟨g, 0, none⟩)) | 28 => v = (.int .i64 sid) | 29 => v = (.agg (encC c).toArray) | 30 => v = (.pointer (some ⟨g, 0, none⟩)) | 31 => v = (.int .i64 sid) | _ => True) (fun _ _ => True) (by kernel_rfl) rfl (by kernel_rfl) (by kernel_rfl) (by kernel_rfl) (by kernel_rfl) ?_ ?_ ?_ ?_ ?_ ?_ ?_
   ·intro w' w'' h
    trivial
   ·intro t w' w'' v hR hv
    exact hv
   ·intro vs w' w'' h e
    exact h.keep e
   ·exact (Below.refl _ _).drew
   ·intro i o ho hmi vs X w' hpk hph hX hI hF K hK
    have hin : i < 8 := (Array.getElem?_eq_some_iff.1 ho).1
    have hi : i = 0 ∨ i = 1 ∨ i = 2 ∨ i = 3 ∨ i = 4 ∨ i = 5 ∨ i = 6 ∨ i = 7 := by omega
    rcases hi with rfl | rfl | rfl | rfl | rfl | rfl | rfl | rfl
    ·obtain rfl := Option.some.inj ho
     have e7 : X 7 = (.map (some bk)) := hF 7 (by omega) (by kernel_rfl)
     unfold wpOp
     simp only [ho]
     rw [if_pos (by rfl)]
     left
     rw [frame88]
     go_simp
     refine metK (hK.out ((.map (some bk))) _ (Below.refl _ _) (fun d hd => by cases hd; exact rfl)) ?_
     simp [frame88, Act.put, *]
    ·obtain rfl := Option.some.inj ho
     have e10 : X 10 = (.pointer (some ⟨g, 0, none⟩)) := hF 10 (by omega) (by kernel_rfl)
     unfold wpOp
     simp only [ho]
     rw [if_pos (by rfl)]
     left
     rw [frame88]
     go_simp
     refine metK (hK.out ((.pointer (some ⟨g, 0, none⟩))) _ (Below.refl _ _) (fun d hd => by cases hd; exact rfl)) ?_
     simp [frame88, Act.put, *]
    ·obtain rfl := Option.some.inj ho
     have e27 : X 27 = _ := hI 27 (by kernel_rfl) (by kernel_rfl)
     have hx := hph.x ((hpk 1 (by decide)).2 (by kernel_rfl))
     have d0 := HBG.out w' hx
     unfold wpOp
     simp only [ho]
     rw [if_pos (by rfl)]
     left
     rw [frame88]
     go_simp
     refine metK (hK.out ((.int .i64 sid)) _ (Below.refl _ _) (fun d hd => by cases hd; exact rfl)) ?_
     simp [frame88, Act.put, *]
    ·obtain rfl := Option.some.inj ho
     have e3 : X 3 = (.pointer (some ⟨b0, 0, none⟩)) := hF 3 (by omega) (by kernel_rfl)
     have hx := hph.x ((hpk 1 (by decide)).2 (by kernel_rfl))
     unfold wpOp
     simp only [ho]
     rw [if_pos (by rfl)]
     left
     rw [frame88]
     refine wp_load_mid 30 (.tmp 3) rfl b0 0 e3 (encC c) cd (range_box (HBX.out w' (HKW.out.ext.trans hx))) hcd1 hcd2 Tryz.confSize (metK (hK.out (.agg (encC c).toArray) _ (Below.refl _ _) (fun d hd => by cases hd; exact rfl)) ?_)
     simp [frame88, Act.put, *]
    ·obtain rfl := Option.some.inj ho
     have e10 : X 10 = (.pointer (some ⟨g, 0, none⟩)) := hF 10 (by omega) (by kernel_rfl)
     unfold wpOp
     simp only [ho]
     rw [if_pos (by rfl)]
     left
     rw [frame88]
     go_simp
     refine metK (hK.out ((.pointer (some ⟨g, 0, none⟩))) _ (Below.refl _ _) (fun d hd => by cases hd; exact rfl)) ?_
     simp [frame88, Act.put, *]
    ·obtain rfl := Option.some.inj ho
     have e30 : X 30 = _ := hI 30 (by kernel_rfl) (by kernel_rfl)
     have hx := hph.x ((hpk 1 (by decide)).2 (by kernel_rfl))
     have d0 := HBG.out w' hx
     unfold wpOp
     simp only [ho]
     rw [if_pos (by rfl)]
     left
     rw [frame88]
     go_simp
     refine metK (hK.out ((.int .i64 sid)) _ (Below.refl _ _) (fun d hd => by cases hd; exact rfl)) ?_
     simp [frame88, Act.put, *]
    ·exact absurd hmi (by decide)
    ·exact absurd hmi (by decide)
   ·intro i o ho hmi vs X w' hqi hql hph hX hI hF K hK
    rcases vs with _ | ⟨v0, _ | ⟨v1, _⟩⟩
    ·obtain rfl : 6 = i := hqi
     obtain rfl := Option.some.inj ho
     have e29 : X 29 = _ := hI 29 (by kernel_rfl) (by kernel_rfl)
     have e31 : X 31 = _ := hI 31 (by kernel_rfl) (by kernel_rfl)
     have hx : Ext W3 w' := hph
     unfold wpOp
     simp only [ho]
     rw [if_pos (by rfl)]
     left
     rw [frame88]
     go_simp
     refine (kids_any c sid w' (HG.out w' (HKW.out.ext.trans hx))).mono ?_
     rintro e w9 ⟨v, rfl, hv, E9⟩
     refine metK (hK.out v w9 ⟨hx.trans E9, hv.z⟩ trivial) ?_
     simp [frame88, Act.put, *]
    ·obtain rfl : 7 = i := hqi
     obtain rfl := Option.some.inj ho
     have e26 : X 26 = _ := hI 26 (by kernel_rfl) (by kernel_rfl)
     have e28 : X 28 = _ := hI 28 (by kernel_rfl) (by kernel_rfl)
     have e32 : X 32 = v0 := hX 0 32 (by simp) (by kernel_rfl)
     obtain ⟨hx, hv⟩ := hph
     have hs := HKM.out.ext hx
     unfold wpOp
     simp only [ho]
     rw [if_pos (by rfl)]
     left
     rw [frame88]
     refine wp_mv_put (.tmp 26) (.tmp 28) (.tmp 32) 92 rfl hs intLit_inj keyedI Tryz.underlying92 (by have := HSL.out; unfold maxLen; omega) (by simp [Act.eval, *]) (.int .i64 sid) v0 (by simp [Act.eval, *]) (by simp [Act.eval, *]) (y := sid) (keyIn HID.out) (fun w9 hm9 ht9 => ?_)
     refine metK (hK.out undef _ ⟨w', w9, hx, hv, ht9, hm9, Below.refl _ _⟩ trivial) ?_
     simp [frame88, Act.put, *]
    ·simp at hql <;> omega
   ·intro vs X w' hlen hph hX hI
    have e26 : X 26 = _ := hI 26 (by omega) (by kernel_rfl) (by kernel_rfl)
    have e27 : X 27 = _ := hI 27 (by omega) (by kernel_rfl) (by kernel_rfl)
    have e28 : X 28 = _ := hI 28 (by omega) (by kernel_rfl) (by kernel_rfl)
    have e29 : X 29 = _ := hI 29 (by omega) (by kernel_rfl) (by kernel_rfl)
    have e30 : X 30 = _ := hI 30 (by omega) (by kernel_rfl) (by kernel_rfl)
    have e31 : X 31 = _ := hI 31 (by omega) (by kernel_rfl) (by kernel_rfl)
    rcases vs with _ | ⟨v0, _ | ⟨v1, _ | ⟨vz, vs⟩⟩⟩
    ·simp at hlen
    ·simp at hlen
    rotate_left
    ·simp at hlen
    have e32 : X 32 = v0 := hX 0 32 (by simp) (by kernel_rfl)
    clear hX hI hlen
    simp only [overF, List.foldl_cons, List.foldl_nil, List.setIfInBounds_toArray, List.set_cons_succ, List.set_cons_zero, e26, e27, e28, e29, e30, e31, e32]
    obtain ⟨w8, w9, E8, hv8, ht8, hm9, E9⟩ := hph
    have hb4 := turn_cells E8 ht8 ((HKM.out.ext E8).ofM) E9 HB3.out
    have hk4 := HKW.out.putK hlt HBK.out HNE.out HG2.out HG3.out HKM.out E8 (by rw [HSID.out]; exact hv8) ht8 (by rw [HSID.out]; exact hm9) E9
    clear E8 hv8 ht8 hm9 E9 w8 w9 e26 e27 e28 e29 e30 e31 e32
    generalize w' = W4 at hb4 hk4 ⊢
    have HKW4 := hide hk4
    have HNM := hide hk4.nm
    have HBG4 := hide (fun (Y : World) (hY : Ext W4 Y) => (show Y.cell? ⟨g, 0, none⟩ = some (.int .i64 sid) from by rw [← HSI.out]; exact cell_box ((hY.block g (Array.getElem?_eq_some_iff.1 hb4).1).trans hb4) 0 _ rfl))
    clear hb4 hk4 HKW HKM HG2 HG3 HBG HB3 gk
    go_upto_region 7 with (fail)
    refine wp_region_rw 88 [7] [33, 34, 35, 36, 37, 38, 39] (PhM W4 bn (k + 1) (fun z => if z = sid then some (.int .i64 (selfN sid tgt)) else ((if thereB (c.S.take k) z = true then some (selfN z tgt) else none : Option Int)).map (Value.int .i64))) (fun (t : Nat) (wI : World) (v : Value) => match t with | 33 => v = (.map (some bn)) | 34 => v = (.pointer (some ⟨g, 0, none⟩)) | 35 => v = (.int .i64 sid) | 36 => v = (.pointer (some ⟨g, 0, none⟩)) | 37 => v = (.int .i64 sid) | 38 => v = (.int .i64 tgt) | 39 => v = (.int .i64 (selfN sid tgt)) | _ => True) (fun _ _ => True) (by kernel_rfl) rfl (by kernel_rfl) (by kernel_rfl) (by kernel_rfl) (by kernel_rfl) ?_ ?_ ?_ ?_ ?_ ?_ ?_
    ·intro w' w'' h
     trivial
    ·intro t w' w'' v hR hv
     exact hv
    ·intro vs w' w'' h e
     exact h.keep e
    ·exact (Below.refl _ _).drew
    ·intro i o ho hmi vs X w' hpk hph hX hI hF K hK
     have hin : i < 8 := (Array.getElem?_eq_some_iff.1 ho).1
     have hi : i = 0 ∨ i = 1 ∨ i = 2 ∨ i = 3 ∨ i = 4 ∨ i = 5 ∨ i = 6 ∨ i = 7 := by omega
     rcases hi with rfl | rfl | rfl | rfl | rfl | rfl | rfl | rfl
     ·obtain rfl := Option.some.inj ho
      have e8 : X 8 = (.map (some bn)) := hF 8 (by omega) (by kernel_rfl)
      unfold wpOp
      simp only [ho]
      rw [if_pos (by rfl)]
      left
      rw [frame88]
      go_simp
      refine metK (hK.out ((.map (some bn))) _ (Below.refl _ _) (fun d hd => by cases hd; exact rfl)) ?_
      simp [frame88, Act.put, *]
     ·obtain rfl := Option.some.inj ho
      have e10 : X 10 = (.pointer (some ⟨g, 0, none⟩)) := hF 10 (by omega) (by kernel_rfl)
      unfold wpOp
      simp only [ho]
      rw [if_pos (by rfl)]
      left
      rw [frame88]
      go_simp
      refine metK (hK.out ((.pointer (some ⟨g, 0, none⟩))) _ (Below.refl _ _) (fun d hd => by cases hd; exact rfl)) ?_
      simp [frame88, Act.put, *]
     ·obtain rfl := Option.some.inj ho
      have e34 : X 34 = _ := hI 34 (by kernel_rfl) (by kernel_rfl)
      have hx := hph.x ((hpk 0 (by decide)).2 (by kernel_rfl))
      have d0 := HBG4.out w' hx
      unfold wpOp
      simp only [ho]
      rw [if_pos (by rfl)]
      left
      rw [frame88]
      go_simp
      refine metK (hK.out ((.int .i64 sid)) _ (Below.refl _ _) (fun d hd => by cases hd; exact rfl)) ?_
      simp [frame88, Act.put, *]
     ·obtain rfl := Option.some.inj ho
      have e10 : X 10 = (.pointer (some ⟨g, 0, none⟩)) := hF 10 (by omega) (by kernel_rfl)
      unfold wpOp
      simp only [ho]
      rw [if_pos (by rfl)]
      left
      rw [frame88]
      go_simp
      refine metK (hK.out ((.pointer (some ⟨g, 0, none⟩))) _ (Below.refl _ _) (fun d hd => by cases hd; exact rfl)) ?_
      simp [frame88, Act.put, *]
     ·obtain rfl := Option.some.inj ho
      have e36 : X 36 = _ := hI 36 (by kernel_rfl) (by kernel_rfl)
      have hx := hph.x ((hpk 0 (by decide)).2 (by kernel_rfl))
      have d0 := HBG4.out w' hx
      unfold wpOp
      simp only [ho]
      rw [if_pos (by rfl)]
      left
      rw [frame88]
      go_simp
      refine metK (hK.out ((.int .i64 sid)) _ (Below.refl _ _) (fun d hd => by cases hd; exact rfl)) ?_
      simp [frame88, Act.put, *]
     ·obtain rfl := Option.some.inj ho
      have e1 : X 1 = (.int .i64 tgt) := hF 1 (by omega) (by kernel_rfl)
      unfold wpOp
      simp only [ho]
      rw [if_pos (by rfl)]
      left
      rw [frame88]
      go_simp
      refine metK (hK.out ((.int .i64 tgt)) _ (Below.refl _ _) (fun d hd => by cases hd; exact rfl)) ?_
      simp [frame88, Act.put, *]
     ·obtain rfl := Option.some.inj ho
      have e37 : X 37 = _ := hI 37 (by kernel_rfl) (by kernel_rfl)
      have e38 : X 38 = _ := hI 38 (by kernel_rfl) (by kernel_rfl)
      unfold wpOp
      simp only [ho]
      rw [if_pos (by rfl)]
      left
      rw [frame88]
      go_simp
      refine (self_any sid tgt w').mono ?_
      rintro e w9 ⟨rfl, hw⟩
      subst hw
      refine metK (hK.out (.int .i64 (selfN sid tgt)) w' (Below.refl _ _) (fun d hd => by cases hd; exact rfl)) ?_
      simp [frame88, Act.put, *]
     ·exact absurd hmi (by decide)
    ·intro i o ho hmi vs X w' hqi hql hph hX hI hF K hK
     rcases vs with _ | ⟨v0, _⟩
     ·obtain rfl : 7 = i := hqi
      obtain rfl := Option.some.inj ho
      have e33 : X 33 = _ := hI 33 (by kernel_rfl) (by kernel_rfl)
      have e35 : X 35 = _ := hI 35 (by kernel_rfl) (by kernel_rfl)
      have e39 : X 39 = _ := hI 39 (by kernel_rfl) (by kernel_rfl)
      have hx : Ext W4 w' := hph
      have hs := HNM.out.ext hx
      unfold wpOp
      simp only [ho]
      rw [if_pos (by rfl)]
      left
      rw [frame88]
      refine wp_mv_put (.tmp 33) (.tmp 35) (.tmp 39) 61 rfl hs intLit_inj keyedI Tryz.underlying61 (by have := HSL.out; unfold maxLen; omega) (by simp [Act.eval, *]) (.int .i64 sid) (.int .i64 (selfN sid tgt)) (by simp [Act.eval, *]) (by simp [Act.eval, *]) (y := sid) (keyIn HID.out) (fun w9 hm9 ht9 => ?_)
      refine metK (hK.out undef _ ⟨w', w9, hx, ht9, hm9, Below.refl _ _⟩ trivial) ?_
      simp [frame88, Act.put, *]
     ·simp at hql <;> omega
    ·intro vs X w' hlen hph hX hI
     have e33 : X 33 = _ := hI 33 (by omega) (by kernel_rfl) (by kernel_rfl)
     have e34 : X 34 = _ := hI 34 (by omega) (by kernel_rfl) (by kernel_rfl)
     have e35 : X 35 = _ := hI 35 (by omega) (by kernel_rfl) (by kernel_rfl)
     have e36 : X 36 = _ := hI 36 (by omega) (by kernel_rfl) (by kernel_rfl)
     have e37 : X 37 = _ := hI 37 (by omega) (by kernel_rfl) (by kernel_rfl)
     have e38 : X 38 = _ := hI 38 (by omega) (by kernel_rfl) (by kernel_rfl)
     have e39 : X 39 = _ := hI 39 (by omega) (by kernel_rfl) (by kernel_rfl)
     rcases vs with _ | ⟨v0, _ | ⟨vz, vs⟩⟩
     ·simp at hlen
     rotate_left
     ·simp at hlen
     clear hX hI hlen
     simp only [overF, List.foldl_cons, List.foldl_nil, List.setIfInBounds_toArray, List.set_cons_succ, List.set_cons_zero, e33, e34, e35, e36, e37, e38, e39]
     obtain ⟨w8, w9, E8, ht8, hm9, E9⟩ := hph
     have hk5 := HKW4.out.putN hlt HBN.out HNE.out E8 ht8 (by rw [HSID.out]; exact hm9) E9
     have HK5 := hide hk5
     clear E8 ht8 hm9 E9 w8 w9 e33 e34 e35 e36 e37 e38 e39 hk5
     go_wp2
     go_roundw
     case rel => exact ⟨k + 1, hlt, by go_num, HK5.out⟩
     case measure => simp [intOf]; omega
  ·obtain rfl : k = c.S.length := by omega
   have hltz : ¬ (c.S.length : Int) < c.S.length := by omega
   have hkw := HKR.out
   obtain ⟨gk, hkm, hg2, hg3⟩ := hkw.km
   rw [List.take_length] at hg2
   have hnm := hkw.nm
   rw [List.take_length] at hnm
   have HKM := hide hkm
   have HG2 := hide hg2
   have HG3 := hide hg3
   have HNM := hide (show IM wr bn c.S.length (lvF c tgt 0) from hnm)
   have HW5 := hide hkw.ext
   clear hkw hkm hg2 hg3 hnm HKR hlt
   generalize wr = W5 at *
   go_wp2_with fail
   go_loopw [8, 42] (fun v8 v42 wr => ∃ (i bw n : Nat), i ≤ d ∧ v42 = .int .i64 i ∧ v8 = .map (some bw) ∧ IM wr bw n (lvF c tgt i) ∧ Ext W5 wr) (fun _ i _ => d - (intOf i).toNat)
   case atStart => exact ⟨0, bn, _, Nat.zero_le _, rfl, rfl, HNM.out, Below.refl _ _⟩
   case round =>
    obtain ⟨i, bw, n, hi, rfl, rfl, him, hext⟩ := hrel
    have HIM := hide him
    have HE := hide hext
    clear him hext
    generalize wr = W6 at *
    by_cases hlti : i < d
    ·have hltiz : (i : Int) < d := by omega
     have hwi : IntKind.i64.wrap ((i : Int) + 1) = ((i + 1 : Nat) : Int) := by have := HD.out; rw [IntKind.wrap_i64]; omega
     go_upto_region 12 with (fail)
     have hm1 := MapV.made (Lit.int .i64) W6 3
     have hx1 : Ext W6 (W6.alloc (.map #[] 0)) := (Below.refl _ _).alloc (Nat.le_refl _) _
     show Code.wp _ _ _ _ (W6.alloc (.map #[] 0))
     obtain ⟨bx, hbx⟩ : ∃ b, W6.heap.size = b := ⟨_, rfl⟩
     have hsz : (W6.alloc (.map #[] 0)).heap.size = bx + 1 := by rw [← hbx]; simp
     rw [hbx] at hm1 ⊢
     generalize W6.alloc (.map #[] 0) = W7 at hm1 hx1 hsz ⊢
     have HKM7 := hide (HKM.out.ext (HE.out.trans hx1))
     have HBXX := hide (show W6.heap.size ≤ bx by omega)
     have HSZ7 := hide hsz
     clear hsz hbx
     have HXM7 := hide hm1
     have HE7 := hide hx1
     clear hm1 hx1
     go_wp2_with (at_range; refine wpList_mr_range _ rfl _ _ rfl HKM7.out keyedI Tryz.underlying92 rfl ?_; intro w0 cnt hr0 hg0 hs0)
     go_frame
     have hE0 : Ext W7 w0 := ⟨hg0.os, hg0.tape, hg0.output, hg0.size, fun q hq => hg0.block q hq (by simp)⟩
     obtain ⟨r, hre⟩ : ∃ r, W7.heap.size = r := ⟨_, rfl⟩
     rw [hre] at hr0 ⊢
     have HR0 := hide hr0
     have HNEX := hide (show bk ≠ bx ∧ r ≠ bx from ⟨fun e => by have := HKM.out.lt; have := HE.out.size; have := HBXX.out; omega, by have := HSZ7.out; omega⟩)
     have HC0 := hide (hr0.cnt_le)
     have HX0 := hide (HXM7.out.ext hE0)
     have HE0 := hide (HE7.out.trans hE0)
     have HRR := hide (show W6.heap.size ≤ r by have := HBXX.out; have := HSZ7.out; omega)
     clear hr0 hg0 hs0 hE0 HXM7 HE7 hre HSZ7
     go_loopw [12] (fun v12 wr => ∃ (lf : Int → Bool) (cnt' nx : Nat) (same : Bool), v12 = .bool same ∧ MapR (Lit.int .i64) wr 3 bk r c.S.length gk lf cnt' ∧ IM wr bx nx (fun x => if (thereB c.S x && !lf x) = true then some (lvl (kidsG c) tgt (i + 1) x) else none) ∧ nx + 100 * cnt' ≤ 100 * cnt ∧ Hid (same = true ↔ ∀ x, thereB c.S x = true → lf x = false → lvl (kidsG c) tgt (i + 1) x = lvl (kidsG c) tgt i x) ∧ Ext W6 wr) (fun _ wr => wr.rangeLeft bk r)
     case atStart =>
      refine ⟨_, cnt, 0, true, rfl, HR0.out, HX0.out.congr fun z => ?_, by omega, hide ⟨fun _ x hx hl => ?_, fun _ => rfl⟩, HE0.out⟩
      ·show none = Option.map (Value.int .i64) (if (thereB c.S z && !(gk z).isSome) = true then some (lvl (kidsG c) tgt (i + 1) z) else none)
       rw [HG2.out z]
       cases thereB c.S z <;> rfl
      ·rw [HG2.out x, hx] at hl
       cases hl
     case round =>
      obtain ⟨lf, cnt1, nx, same, rfl, hr, hxm, hnx, hsm, hext⟩ := hrel
      have HR := hide hr
      have HR1L := hide hr.left_eq
      have HXM := hide hxm
      have HNX := hide hnx
      have HSM := hide hsm.out
      have HE2 := hide hext
      clear hr hxm hnx hsm hext HR0 HX0 HE0
      go_wp2_with (at_next; refine wpList_mr_next _ rfl _ rfl HR.out rfl ?_ ?_)
      ·intro hc0 hl0
       have HL0 := hide hl0
       clear hc0 hl0
       have HXD := hide (show IM wr bx nx (lvF c tgt (i + 1)) from HXM.out.congr fun z => by
        show Option.map _ (if (thereB c.S z && !lf z) = true then some (lvl (kidsG c) tgt (i + 1) z) else none) = Option.map _ (lvF c tgt (i + 1) z)
        unfold lvF
        cases hz : thereB c.S z with
        | false => rfl
        | true =>
         have := HTEN.out z hz
         rw [HL0.out z (by unfold I64; omega)]
         rfl)
       cases same with
       | true =>
        have HEND := hide (show lvF c tgt d = lvF c tgt i from funext fun z => by
         have h1 : ∀ x, thereB c.S x = true → lvl (kidsG c) tgt (i + 1) x = lvl (kidsG c) tgt i x := fun x hx => HSM.out.1 rfl x hx (HL0.out x (by have := HTEN.out x hx; unfold I64; omega))
         unfold lvF
         rw [lvl_same HLD.out tgt h1 (Nat.le_of_lt hlti) z])
        have HIW := hide (HIM.out.ext HE2.out)
        have HZ := hide (HX.out.trans (HW5.out.trans (HE.out.trans HE2.out)))
        go_wp2
        go_ret
        exact ⟨_, rfl, ⟨_, by rw [HEND.out]; exact HIW.out⟩, HZ.out⟩
       | false =>
        have HZ := hide (HE.out.trans HE2.out)
        go_wp2
        go_roundw
        case rel => exact ⟨i + 1, bx, nx, hlti, by go_num, rfl, HXD.out, HZ.out⟩
        case measure => simp [intOf]; omega
      ·intro x v w1 cnt2 hx6 hlx hgx hr1 hlt1 hg1 hs1 hen
       obtain ⟨vs, hvo, hvr⟩ := HG3.out x v hgx
       obtain ⟨va, vc, rfl⟩ := owns_shape hvo
       have hth : thereB c.S x = true := by rw [← HG2.out x, hgx]; rfl
       have HTH := hide hth
       have HVO := hide hvo
       have HVR := hide hvr
       have HX6 := hide hx6
       have HR1 := hide hr1
       have HLT1 := hide hlt1
       have hX1 : IM w1 bx nx _ := HXM.out.kept hg1 (fun e => HNEX.out.2 (Option.some.inj e).symm)
       obtain ⟨F3, hF3⟩ : ∃ F, (fun z => if (thereB c.S z && !lf z) = true then some (lvl (kidsG c) tgt (i + 1) z) else none) = F := ⟨_, rfl⟩
       rw [hF3] at hX1
       have HF3 := hide hF3
       have HX1 := hide hX1
       have HE1 := hide (Keeps.ext HE2.out (Keeps.of_grown hg1 (X := fun q => q = r) (fun k hk => by cases hk; rfl)) (fun q hq => by have := HRR.out; omega))
       have HN1 := hide (show nx ≤ 1000 by have := HNX.out; have := HC0.out; have := HSL.out; omega)
       have HKL1 := hide (HKL.out x)
       clear hvo hvr hth hlx hgx hr1 hg1 hs1 hX1 hF3 hlt1 HR HXM HE2 hx6
       go_wp2_with fail
       refine (self_any x tgt _).mono ?_
       rintro e w1' ⟨rfl, hw⟩
       subst hw
       clear hen
       go_wp2_with (at_mapUpdate; refine wpList_mv_put _ rfl _ _ _ _ rfl HX1.out intLit_inj keyedI Tryz.underlying61 (by have := HN1.out; unfold maxLen; omega) rfl _ _ rfl rfl (keyIn HX6.out) ?_; intro w2 hm2 ht2; go_frame)
       have HR2 := hide (HR1.out.kept ht2.grown (fun e => HNEX.out.1 (Option.some.inj e)) (fun e => HNEX.out.2 (Option.some.inj e)))
       have HE3 := hide (Keeps.ext HE1.out (turned_keeps ht2) fun q hq => by have := HBXX.out; omega)
       have HX2 := hide hm2
       clear hm2 ht2 HR1 HX1 HE1
       go_loopw [59] (fun v59 wr => ∃ j n4 : Nat, j ≤ (kidsG c x).length ∧ v59 = .int .i64 j ∧ IM wr bx n4 (fun y => if y = x then some (stpN ((kidsG c x).take j) (selfN x tgt) (lvl (kidsG c) tgt i)) else F3 y) ∧ n4 ≤ nx + 1 + j ∧ MapR (Lit.int .i64) wr 3 bk r c.S.length gk (fun y => lf y && !decide (y = x)) cnt2 ∧ Ext W6 wr) (fun j _ => (kidsG c x).length - (intOf j).toNat)
       case atStart =>
        refine ⟨0, nx + 1, Nat.zero_le _, rfl, HX2.out.congr fun z => ?_, by omega, HR2.out, HE3.out⟩
        show (if z = x then some (Value.int .i64 (selfN x tgt)) else (F3 z).map (Value.int .i64)) = Option.map (Value.int .i64) (if z = x then some (selfN x tgt) else F3 z)
        by_cases hz : z = x <;> simp [hz]
       case round =>
        obtain ⟨j, n4, hj, rfl, him4, hn4, hr4, he4⟩ := hrel
        clear HX2 HR2 HE3
        have HR4 := hide hr4
        have HE4 := hide he4
        have HN4B := hide hn4
        have HN4 := hide (show n4 ≤ 10000 by have := HN1.out; have := HKL1.out; omega)
        clear hr4 he4 hn4
        by_cases hltj : j < (kidsG c x).length
        ·have hltjz : (j : Int) < (kidsG c x).length := by omega
         have hwj : IntKind.i64.wrap ((j : Int) + 1) = ((j + 1 : Nat) : Int) := by have := HKL1.out; rw [IntKind.wrap_i64]; omega
         have hE5 : Ext W5 wr := HE.out.trans HE4.out
         obtain ⟨u, hu, hui⟩ := (HVR.out.ext hE5).at j hltj
         have hvo2 := owns_ext HVO.out hE5
         obtain ⟨gv, cv, hgv, -⟩ := owns_form hvo2 (by omega)
         cases hgv
         have y0 : wr.cell? ⟨gv, j, none⟩ = some u := by
          have := hvo2.cells (g := gv) rfl j u hu
          rw [add_cell] at this
          exact this
         obtain ⟨_, ua, uc, rfl⟩ := hui.shape
         have hlm : (kidsG c x)[j] ∈ kidsG c x := List.getElem_mem hltj
         have hst := stpN_snoc (kidsG c x) (selfN x tgt) (lvl (kidsG c) tgt i) j hltj
         have hgl := great_lv HLD.out tgt i hlm
         have hlf : ∀ y ∈ (kidsG c x)[j], I64 y := fun y hy => by have := HTEN.out y (kids_there HLD.out hlm hy); unfold I64; omega
         generalize (kidsG c x)[j] = l at hui hst hgl hlf y0 hlm
         obtain ⟨cur, hcur⟩ : ∃ z, stpN ((kidsG c x).take j) (selfN x tgt) (lvl (kidsG c) tgt i) = z := ⟨_, rfl⟩
         obtain ⟨gr, hgr⟩ : ∃ z, great l (lvl (kidsG c) tgt i) = z := ⟨_, rfl⟩
         have hcb : ∀ y ∈ [cur, gr], 0 ≤ y ∧ y ≤ mostN := fun y hy => by
          have h0 := self_bd x tgt
          rcases List.mem_cons.1 hy with rfl | hy
          ·rw [← hcur]
           exact stpN_bd ⟨h0.1, by unfold mostN; omega⟩
          ·rw [List.mem_singleton.1 hy, ← hgr]
           exact great_bd fun z => (lvl_bd _ _ _ z).2
         rw [hgr] at hgl
         rw [hcur, hgr] at hst
         rw [hcur] at him4
         obtain ⟨F4, hF4⟩ : ∃ F, (fun y => if y = x then some cur else F3 y) = F := ⟨_, rfl⟩
         rw [hF4] at him4
         have HF4 := hide hF4
         have HST := hide hst
         have HCB := hide hcb
         have HXM := hide him4
         have HLK := hide (fun X (hX : Ext wr X) => (by
          have q := (him4.ext hX).look keyedI Tryz.underlying61 (zeroI X) (keyIn HX6.out)
          rw [← hF4] at q
          simpa using q : (Instr.lookup 61 (.map (some bx)) (.int .i64 x) false).run Tryz.prog X = .ok (.int .i64 cur) X))
         have HGR := hide (fun X (hX : Ext wr X) => (by
          have q := greatest_any l _ bw n (lvF c tgt i) X (hui.ext hX) hlf (HIM.out.ext (HE4.out.trans hX))
          rw [hgl] at q
          exact q : Calls Tryz.prog 31 #[.slice ua l.length uc, .map (some bw)] X fun e w' => e = .returned (.int .i64 gr) ∧ X = w'))
         clear hcur hgr hF4 hst hcb him4 hgl hlf hui hlm hvo2 hu hE5
         go_upto_region 20 with (fail)
         generalize hW8 : wr = W8 at *
         clear hW8
         refine wp_region_rw 88 [8, 10] [63, 64, 65, 66, 67, 68, 69, 70, 71, 72] (PhN W8 bx (n4 + 1) (fun z => if z = x then some (.int .i64 (sumM cur gr)) else (F4 z).map (Value.int .i64)) [cur, gr]) (fun (t : Nat) (wI : World) (v : Value) => match t with | 63 => v = (.map (some bx)) | 64 => v = (.int .i64 x) | 65 => v = (.map (some bx)) | 66 => v = (.int .i64 x) | 67 => v = (.int .i64 cur) | 68 => v = (.slice ua l.length uc) | 69 => v = (.map (some bw)) | 70 => v = (.int .i64 gr) | 72 => v = (.int .i64 (sumM cur gr)) | _ => True) (fun _ _ => True) (by kernel_rfl) rfl (by kernel_rfl) (by kernel_rfl) (by kernel_rfl) (by kernel_rfl) ?_ ?_ ?_ ?_ ?_ ?_ ?_
         ·intro w' w'' h
          trivial
         ·intro t w' w'' v hR hv
          exact hv
         ·intro vs w' w'' h e
          exact h.keep e
         ·exact (Below.refl _ _).drew
         ·intro i o ho hmi vs X w' hpk hph hX hI hF K hK
          have hin : i < 11 := (Array.getElem?_eq_some_iff.1 ho).1
          have hi : i = 0 ∨ i = 1 ∨ i = 2 ∨ i = 3 ∨ i = 4 ∨ i = 5 ∨ i = 6 ∨ i = 7 ∨ i = 8 ∨ i = 9 ∨ i = 10 := by omega
          rcases hi with rfl | rfl | rfl | rfl | rfl | rfl | rfl | rfl | rfl | rfl | rfl
          ·obtain rfl := Option.some.inj ho
           have e11 : X 11 = (.map (some bx)) := hF 11 (by omega) (by kernel_rfl)
           unfold wpOp
           simp only [ho]
           rw [if_pos (by rfl)]
           left
           rw [frame88]
           go_simp
           refine metK (hK.out ((.map (some bx))) _ (Below.refl _ _) (fun d hd => by cases hd; exact rfl)) ?_
           simp [frame88, Act.put, *]
          ·obtain rfl := Option.some.inj ho
           have e13 : X 13 = (.int .i64 x) := hF 13 (by omega) (by kernel_rfl)
           unfold wpOp
           simp only [ho]
           rw [if_pos (by rfl)]
           left
           rw [frame88]
           go_simp
           refine metK (hK.out ((.int .i64 x)) _ (Below.refl _ _) (fun d hd => by cases hd; exact rfl)) ?_
           simp [frame88, Act.put, *]
          ·obtain rfl := Option.some.inj ho
           have e11 : X 11 = (.map (some bx)) := hF 11 (by omega) (by kernel_rfl)
           unfold wpOp
           simp only [ho]
           rw [if_pos (by rfl)]
           left
           rw [frame88]
           go_simp
           refine metK (hK.out ((.map (some bx))) _ (Below.refl _ _) (fun d hd => by cases hd; exact rfl)) ?_
           simp [frame88, Act.put, *]
          ·obtain rfl := Option.some.inj ho
           have e13 : X 13 = (.int .i64 x) := hF 13 (by omega) (by kernel_rfl)
           unfold wpOp
           simp only [ho]
           rw [if_pos (by rfl)]
           left
           rw [frame88]
           go_simp
           refine metK (hK.out ((.int .i64 x)) _ (Below.refl _ _) (fun d hd => by cases hd; exact rfl)) ?_
           simp [frame88, Act.put, *]
          ·obtain rfl := Option.some.inj ho
           have e65 : X 65 = _ := hI 65 (by kernel_rfl) (by kernel_rfl)
           have e66 : X 66 = _ := hI 66 (by kernel_rfl) (by kernel_rfl)
           have hx := hph.x ((hpk 1 (by decide)).2 (by kernel_rfl))
           have q := HLK.out w' hx
           unfold wpOp
           simp only [ho]
           rw [if_pos (by rfl)]
           left
           rw [frame88]
           go_simp
           refine metK (hK.out ((.int .i64 cur)) _ (Below.refl _ _) (fun d hd => by cases hd; exact rfl)) ?_
           simp [frame88, Act.put, *]
          ·obtain rfl := Option.some.inj ho
           have e16 : X 16 = (.slice ua l.length uc) := hF 16 (by omega) (by kernel_rfl)
           unfold wpOp
           simp only [ho]
           rw [if_pos (by rfl)]
           left
           rw [frame88]
           go_simp
           refine metK (hK.out ((.slice ua l.length uc)) _ (Below.refl _ _) (fun d hd => by cases hd; exact rfl)) ?_
           simp [frame88, Act.put, *]
          ·obtain rfl := Option.some.inj ho
           have e8 : X 8 = (.map (some bw)) := hF 8 (by omega) (by kernel_rfl)
           unfold wpOp
           simp only [ho]
           rw [if_pos (by rfl)]
           left
           rw [frame88]
           go_simp
           refine metK (hK.out ((.map (some bw))) _ (Below.refl _ _) (fun d hd => by cases hd; exact rfl)) ?_
           simp [frame88, Act.put, *]
          ·obtain rfl := Option.some.inj ho
           have e68 : X 68 = _ := hI 68 (by kernel_rfl) (by kernel_rfl)
           have e69 : X 69 = _ := hI 69 (by kernel_rfl) (by kernel_rfl)
           have hx := hph.x ((hpk 1 (by decide)).2 (by kernel_rfl))
           unfold wpOp
           simp only [ho]
           rw [if_pos (by rfl)]
           left
           rw [frame88]
           go_simp
           refine (HGR.out w' hx).mono ?_
           rintro e w9 ⟨rfl, hw⟩
           subst hw
           refine metK (hK.out (.int .i64 gr) w' (Below.refl _ _) (fun d hd => by cases hd; exact rfl)) ?_
           simp [frame88, Act.put, *]
          ·exact absurd hmi (by decide)
          ·obtain rfl := Option.some.inj ho
           have e71 : X 71 = vs.getD 0 undef := hX 0 71 ((hpk 0 (by decide)).1 (by kernel_rfl)) (by kernel_rfl)
           have h1 := (hpk 0 (by decide)).1 (by kernel_rfl)
           have h2 := (hpk 1 (by decide)).2 (by kernel_rfl)
           obtain ⟨u71, rfl⟩ : ∃ u, vs = [u] := by
            rcases vs with _ | ⟨u, _ | ⟨u2, vs⟩⟩
            ·simp at h1
            ·exact ⟨u, rfl⟩
            ·simp at h2
           have e71 : X 71 = u71 := e71
           obtain ⟨hx, hi⟩ := hph
           unfold wpOp
           simp only [ho]
           rw [if_pos (by rfl)]
           left
           rw [frame88]
           go_simp
           refine (fsum_any [cur, gr] u71 w' hi HCB.out).mono ?_
           rintro e w9 ⟨rfl, hw⟩
           subst hw
           rw [sumL_two (HCB.out cur (List.mem_cons_self ..))]
           refine metK (hK.out (.int .i64 (sumM cur gr)) w' (Below.refl _ _) (fun d hd => by cases hd; exact rfl)) ?_
           simp [frame88, Act.put, *]
          ·exact absurd hmi (by decide)
         ·intro i o ho hmi vs X w' hqi hql hph hX hI hF K hK
          rcases vs with _ | ⟨v0, _ | ⟨v1, _⟩⟩
          ·obtain rfl : 8 = i := hqi
           obtain rfl := Option.some.inj ho
           have e67 : X 67 = _ := hI 67 (by kernel_rfl) (by kernel_rfl)
           have e70 : X 70 = _ := hI 70 (by kernel_rfl) (by kernel_rfl)
           have hx : Ext W8 w' := hph
           have hxa : Ext w' (w'.alloc (.cells #[.int .i64 cur, .int .i64 gr] 3)) := (Below.refl _ _).alloc (Nat.le_refl _) _
           unfold wpOp
           simp only [ho]
           rw [if_pos (by rfl)]
           left
           rw [frame88]
           go_simp
           refine metK (hK.out (.slice (some ⟨w'.heap.size, 0, none⟩) 2 2) (w'.alloc (.cells #[.int .i64 cur, .int .i64 gr] 3)) ⟨hx.trans hxa, ints_lit2 w' cur gr⟩ trivial) ?_
           simp [frame88, Act.put, *]
          ·obtain rfl : 10 = i := hqi
           obtain rfl := Option.some.inj ho
           have e63 : X 63 = _ := hI 63 (by kernel_rfl) (by kernel_rfl)
           have e64 : X 64 = _ := hI 64 (by kernel_rfl) (by kernel_rfl)
           have e72 : X 72 = _ := hI 72 (by kernel_rfl) (by kernel_rfl)
           obtain ⟨hx, -⟩ := hph
           have hs := HXM.out.ext hx
           unfold wpOp
           simp only [ho]
           rw [if_pos (by rfl)]
           left
           rw [frame88]
           refine wp_mv_put (.tmp 63) (.tmp 64) (.tmp 72) 61 rfl hs intLit_inj keyedI Tryz.underlying61 (by have := HN4.out; unfold maxLen; omega) (by simp [Act.eval, *]) (.int .i64 x) (.int .i64 (sumM cur gr)) (by simp [Act.eval, *]) (by simp [Act.eval, *]) (y := x) (keyIn HX6.out) (fun w9 hm9 ht9 => ?_)
           refine metK (hK.out undef _ ⟨w', w9, hx, ht9, hm9, Below.refl _ _⟩ trivial) ?_
           simp [frame88, Act.put, *]
          ·simp at hql <;> omega
         ·intro vs X w' hlen hph hX hI
          have e63 : X 63 = _ := hI 63 (by omega) (by kernel_rfl) (by kernel_rfl)
          have e64 : X 64 = _ := hI 64 (by omega) (by kernel_rfl) (by kernel_rfl)
          have e65 : X 65 = _ := hI 65 (by omega) (by kernel_rfl) (by kernel_rfl)
          have e66 : X 66 = _ := hI 66 (by omega) (by kernel_rfl) (by kernel_rfl)
          have e67 : X 67 = _ := hI 67 (by omega) (by kernel_rfl) (by kernel_rfl)
          have e68 : X 68 = _ := hI 68 (by omega) (by kernel_rfl) (by kernel_rfl)
          have e69 : X 69 = _ := hI 69 (by omega) (by kernel_rfl) (by kernel_rfl)
          have e70 : X 70 = _ := hI 70 (by omega) (by kernel_rfl) (by kernel_rfl)
          have e72 : X 72 = _ := hI 72 (by omega) (by kernel_rfl) (by kernel_rfl)
          rcases vs with _ | ⟨v0, _ | ⟨v1, _ | ⟨vz, vs⟩⟩⟩
          ·simp at hlen
          ·simp at hlen
          rotate_left
          ·simp at hlen
          have e71 : X 71 = v0 := hX 0 71 (by simp) (by kernel_rfl)
          clear hX hI hlen
          simp only [overF, List.foldl_cons, List.foldl_nil, List.setIfInBounds_toArray, List.set_cons_succ, List.set_cons_zero, e63, e64, e65, e66, e67, e68, e69, e70, e71, e72]
          obtain ⟨w8, w9, E8, ht8, hm9, E9⟩ := hph
          have hr9 := (HR4.out.ext E8).kept ht8.grown (fun e => HNEX.out.1 (Option.some.inj e)) (fun e => HNEX.out.2 (Option.some.inj e))
          have HR9 := hide (hr9.ext E9)
          have HE9 := hide (turn_ext HE4.out E8 ht8 E9 HBXX.out)
          have HX9 := hide (hm9.ext E9)
          clear E8 ht8 hm9 E9 w8 w9 hr9 e63 e64 e65 e66 e67 e68 e69 e70 e72
          go_wp2
          go_roundw
          case rel => exact ⟨j + 1, n4 + 1, hltj, by go_num, HX9.out.congr fun z => by
           show (if z = x then some (Value.int .i64 (sumM cur gr)) else (F4 z).map (Value.int .i64)) = Option.map (Value.int .i64) (if z = x then some (stpN ((kidsG c x).take (j + 1)) (selfN x tgt) (lvl (kidsG c) tgt i)) else F3 z)
           rw [HST.out, ← HF4.out]
           by_cases hz : z = x <;> simp [hz], by have := HN4B.out; omega, HR9.out, HE9.out⟩
          case measure => simp [intOf]; omega
        ·obtain rfl : j = (kidsG c x).length := by omega
         have hltjz : ¬ ((kidsG c x).length : Int) < (kidsG c x).length := by omega
         rw [List.take_length] at him4
         obtain ⟨za, hza⟩ : ∃ z, stpN (kidsG c x) (selfN x tgt) (lvl (kidsG c) tgt i) = z := ⟨_, rfl⟩
         have hza2 : lvl (kidsG c) tgt (i + 1) x = za := hza
         obtain ⟨zb, hzb⟩ : ∃ z, lvl (kidsG c) tgt i x = z := ⟨_, rfl⟩
         rw [hza] at him4
         have q1 : (Instr.lookup 61 (.map (some bx)) (.int .i64 x) false).run Tryz.prog wr = .ok (.int .i64 za) wr := by
          have q := him4.look keyedI Tryz.underlying61 (zeroI wr) (keyIn HX6.out)
          simpa using q
         have q2 : (Instr.lookup 61 (.map (some bw)) (.int .i64 x) false).run Tryz.prog wr = .ok (.int .i64 zb) wr := by
          have q := (HIM.out.ext HE4.out).look keyedI Tryz.underlying61 (zeroI wr) (keyIn HX6.out)
          rw [lvF_there HTH.out, hzb] at q
          simpa using q
         have HXN := hide (show IM wr bx n4 (fun y => if (thereB c.S y && !(lf y && !decide (y = x))) = true then some (lvl (kidsG c) tgt (i + 1) y) else none) from him4.congr fun z => by
          show Option.map (Value.int .i64) (if z = x then some za else F3 z) = Option.map (Value.int .i64) (if (thereB c.S z && !(lf z && !decide (z = x))) = true then some (lvl (kidsG c) tgt (i + 1) z) else none)
          rw [← HF3.out]
          by_cases hz : z = x
          ·subst hz
           simp [HTH.out, hza2]
          ·simp [hz])
         have HZA := hide hza2
         have HZB := hide hzb
         have HBD := hide (show n4 + 100 * cnt2 ≤ 100 * cnt by have := HN4B.out; have := HNX.out; have := HLT1.out; have := HKL1.out; omega)
         have hiff : ∀ (s2 : Bool), s2 = (same && decide (za = zb)) → (s2 = true ↔ ∀ y, thereB c.S y = true → (lf y && !decide (y = x)) = false → lvl (kidsG c) tgt (i + 1) y = lvl (kidsG c) tgt i y) := fun s2 hs2 => by
          subst hs2
          rw [Bool.and_eq_true, HSM.out, decide_eq_true_eq]
          constructor
          ·rintro ⟨h1, h2⟩ y hy hly
           by_cases e : y = x
           ·subst e
            rw [HZA.out, HZB.out]
            exact h2
           ·refine h1 y hy ?_
            simpa [e] using hly
          ·intro h1
           refine ⟨fun y hy hly => h1 y hy (by rw [hly]; rfl), ?_⟩
           have := h1 x HTH.out (by simp)
           rw [HZA.out, HZB.out] at this
           exact this
         have HIFF := hide hiff
         clear him4 hza hza2 hzb hiff
         cases same with
         | false =>
          clear q1 q2
          go_wp2
          go_roundw
          case rel => exact ⟨_, cnt2, n4, false, rfl, HR4.out, HXN.out, HBD.out, hide (HIFF.out false rfl), HE4.out⟩
          case measure => rw [HR4.out.left_eq, HR1L.out]; exact HLT1.out
         | true =>
          by_cases hz : za = zb
          ·have HI2 := hide (HIFF.out true (by rw [decide_eq_true hz]; rfl))
           go_wp2
           go_roundw
           case rel => exact ⟨_, cnt2, n4, true, by simp [hz], HR4.out, HXN.out, HBD.out, hide HI2.out, HE4.out⟩
           case measure => rw [HR4.out.left_eq, HR1L.out]; exact HLT1.out
          ·have HI2 := hide (HIFF.out false (by rw [decide_eq_false hz]; rfl))
           go_wp2
           go_roundw
           case rel => exact ⟨_, cnt2, n4, false, by simp [hz], HR4.out, HXN.out, HBD.out, hide HI2.out, HE4.out⟩
           case measure => rw [HR4.out.left_eq, HR1L.out]; exact HLT1.out
    ·obtain rfl : i = d := by omega
     have hltiz : ¬ (i : Int) < i := by omega
     have HZ := hide (HX.out.trans (HW5.out.trans HE.out))
     go_wp2
     go_ret
     exact ⟨_, rfl, ⟨_, HIM.out⟩, HZ.out⟩
end Go.Proofs.YtmpciohmljpncaaGreatDoor
