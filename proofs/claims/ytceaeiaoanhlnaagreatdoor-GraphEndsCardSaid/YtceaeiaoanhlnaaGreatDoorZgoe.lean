/- Merged texts (GkN, GkO, GkP). -/
import Derived.Test.YtceaeiaoanhlnaaGreatDoorZgke
namespace Go.Proofs.YtceaeiaoanhlnaaGreatDoor
open Go.ChangeShapes Go.WideShapes Go.ChangeAt Go.RowKit Go.Lib Go.Shelf Go.Maps
set_option maxRecDepth 100000 in
theorem frame84 (x : Nat → Value) : frameOf 84 x = #[x 0, x 1, x 2, x 3, x 4, x 5, x 6, x 7, x 8, x 9, x 10, x 11, x 12, x 13, x 14, x 15, x 16, x 17, x 18, x 19, x 20, x 21, x 22, x 23, x 24, x 25, x 26, x 27, x 28, x 29, x 30, x 31, x 32, x 33, x 34, x 35, x 36, x 37, x 38, x 39, x 40, x 41, x 42, x 43, x 44, x 45, x 46, x 47, x 48, x 49, x 50, x 51, x 52, x 53, x 54, x 55, x 56, x 57, x 58, x 59, x 60, x 61, x 62, x 63, x 64, x 65, x 66, x 67, x 68, x 69, x 70, x 71, x 72, x 73, x 74, x 75, x 76, x 77, x 78, x 79, x 80, x 81, x 82, x 83] := rfl
set_option maxRecDepth 100000 in
set_option maxHeartbeats 32000000 in
theorem at_step {B : Nat} {W : World} {b0 ba bt bo bm : Nat} {c : ConfD} {U : List ByteArray} {f : Nat} (cx : TCx B W b0 c U) (ih : AtOk B W b0 ba bt bo bm c U f) : AtOk B W b0 ba bt bo bm c U (f + 1) := by
 intro p w h hb hp hd
 obtain ⟨cd, hcd1, hcd2⟩ := Tryz.confDesc
 obtain ⟨dd, hd1, hd2⟩ := Tryz.ruleDesc
 obtain ⟨F, hm, hF⟩ := h.map
 have HCX := hide cx
 have HIH := hide ih
 have HTM := hide h
 have HB := hide hb
 have HPU := hide hp
 have HDF := hide hd
 have HM := hide hm
 have HKP := hide (keyS (cx.sz p hp))
 have HUL := hide cx.len
 have z0 : w.cell? ⟨bt, 0, none⟩ = some (.map (some bm)) := by simp [World.cell?, h.tb]
 cases hfp : F p with
 | some z =>
  obtain ⟨-, g, hg, hz⟩ := hF p z hfp
  have HG1 := hide (show ((F p).map (Value.int .i64)).getD (.int .i64 0) = .int .i64 z by rw [hfp]; rfl)
  have HG2 := hide (show ((F p).map (Value.int .i64)).isSome = true by rw [hfp]; rfl)
  have HZ := hide (show timeF c (f + 1) p = z from (timeF_eq c hd hg).trans hz.symm)
  clear cx ih h hb hp hd hm hF hfp hg hz
  go_enter Tryz.func72, Tryz.ntmps72
  go_wp2_with (at_lookup; refine wpList_mv_look_ok _ rfl _ _ _ rfl HM.out keyedS Tryz.underlying118 (zeroI _) rfl _ rfl HKP.out _ HG1.out _ HG2.out ?_)
  go_ret
  exact ⟨by rw [HZ.out]; rfl, HTM.out, Keeps.refl _ _⟩
 | none =>
  have HG1 := hide (show ((F p).map (Value.int .i64)).getD (.int .i64 0) = .int .i64 0 by rw [hfp]; rfl)
  have HG2 := hide (show ((F p).map (Value.int .i64)).isSome = false by rw [hfp]; rfl)
  have HTA := hide (targetsG_any c p w (cx.gc hb) (cx.sz p hp))
  have HTL := hide (targ_len cx.g.chk p)
  have HTF := hide (targ_fit cx.g.chk p)
  have HSB := hide (fun id => svcT_bd cx.g.chk (timeF c f) (fun q => (timeF_bd cx.g.chk cx.g.fit f q).1) id)
  have HON := hide (onR_len c.R p)
  have HCH := hide cx.g.chk
  have htick := fun r (hr : r ∈ onR c.R p) => inj_ti (chk_rule cx.g.chk (targ_mem hr))
  have HTI := hide htick
  have hdd : ∀ id ∈ bothP c.R p, ∀ k ∈ (findS c.S id).K, Deep c f k := hd
  have HDD := hide hdd
  have hpath : timeF c (f + 1) p = sumM ((targC c.R p).foldl (fun n id => sumM n (svcT c (timeF c f) id)) ((targS c.R p).foldl (fun n id => max n (svcT c (timeF c f) id)) 0)) ((onR c.R p).foldl (fun n r => if 0 < r.de then max n r.ti else n) 0) := rfl
  have HPATH := hide hpath
  clear cx ih h hb hp hd hm hF hfp htick hdd hpath
  go_enter Tryz.func72, Tryz.ntmps72
  go_upto_region 4 with (at_lookup; refine wpList_mv_look_ok _ rfl _ _ _ rfl HM.out keyedS Tryz.underlying118 (zeroI _) rfl _ rfl HKP.out _ HG1.out _ HG2.out ?_)
  refine wp_region_lit ?_
  refine wpList_load_mid rfl 30 (.tmp 2) rfl b0 0 rfl (encC c) cd (range_box (HCX.out.conf HB.out)) hcd1 hcd2 Tryz.confSize ?_
  refine wpList_plain rfl fun Kq hKq => ?_
  go_simp
  refine hKq _ _ ?_
  refine wpList_plain rfl fun Kq hKq => ?_
  go_simp
  refine HTA.out.mono ?_
  rintro e w1 ⟨v1, v2, rfl, hts⟩
  refine hKq _ _ ?_
  clear hKq Kq HTA z0
  have HAB := hide (show ∀ x, x ∈ targS c.R p ∨ x ∈ targC c.R p → x ∈ bothP c.R p from fun x hx => List.mem_append.2 hx)
  generalize targS c.R p = A at *
  generalize targC c.R p = C at *
  obtain ⟨a4, c4, rfl⟩ := owns_shape hts.s
  obtain ⟨a5, c5, rfl⟩ := owns_shape hts.c
  have HS1 := hide hts.s
  have HC1 := hide hts.c
  have HTM1 := hide (HTM.out.ext hts.ext)
  have HB1 := hide (HB.out.trans (hts.ext.mono HTM.out.hB))
  have HK1 := hide (show Keeps (fun q => q = bm) w w1 from Keeps.of_ext hts.ext)
  clear hts
  refine wpList_plain rfl fun Kq hKq => ?_
  go_simp
  refine hKq _ _ ?_
  refine wpList_plain rfl fun Kq hKq => ?_
  go_simp
  refine hKq _ _ ?_
  refine wpList_plain rfl fun Kq hKq => ?_
  go_simp
  refine hKq _ _ ?_
  refine wpList_plain rfl fun Kq hKq => ?_
  go_simp
  refine hKq _ _ ?_
  refine wpList_plain rfl fun Kq hKq => ?_
  go_simp
  refine hKq _ _ ?_
  refine wpList_nil ?_
  go_wp2_with fail
  go_loopw [10, 34] (fun v10 v34 wr => ∃ (k : Nat) (n : Int), k ≤ A.length ∧ v34 = .int .i64 k ∧ v10 = .int .i64 n ∧ Hid (n = (A.take k).foldl (fun n id => max n (svcT c (timeF c f) id)) 0 ∧ 0 ≤ n ∧ n ≤ mostN) ∧ TM B wr b0 ba bt bo bm c U ∧ Below B W wr ∧ Keeps (fun q => q = bm) w1 wr) (fun _ k _ => A.length - (intOf k).toNat)
  case atStart => exact ⟨0, 0, Nat.zero_le _, rfl, rfl, hide ⟨rfl, by decide, by decide⟩, HTM1.out, HB1.out, Keeps.refl _ _⟩
  case round =>
   obtain ⟨k, n, hk, rfl, rfl, hn, htm, hbw, hkp⟩ := hrel
   have HN := hide hn.out
   have HTR := hide htm
   have HBR := hide hbw
   have HKR := hide hkp
   clear hn hbw hkp
   by_cases hlt : k < A.length
   ·have hltz : (k : Int) < A.length := by omega
    have hwk : IntKind.i64.wrap ((k : Int) + 1) = ((k + 1 : Nat) : Int) := by have := HTL.out; rw [IntKind.wrap_i64]; omega
    obtain ⟨pb, po, rfl, hpb, y0⟩ := ints_row (Sl.of_own' (enc := encI) (fun _ => rfl) (owns_keepM HS1.out HKR.out HTM1.out.ofM) : Ints wr (.slice a4 A.length c4) A) k hlt
    have hsn : (A.take (k + 1)).foldl (fun n id => max n (svcT c (timeF c f) id)) 0 = max ((A.take k).foldl (fun n id => max n (svcT c (timeF c f) id)) 0) (svcT c (timeF c f) A[k]) := by rw [take_snoc A k hlt, List.foldl_append]; rfl
    rw [← HN.out.1] at hsn
    have hcal := of_any HCX.out HIH.out A[k] wr HTR.out HBR.out (HDD.out _ (HAB.out _ (.inl (List.getElem_mem hlt))))
    have hsb := HSB.out A[k]
    generalize A[k] = x at y0 hsn hcal hsb
    generalize svcT c (timeF c f) x = t at hsn hcal hsb
    have HSN := hide hsn
    have HCAL := hide hcal
    have HT := hide hsb
    have z1 : wr.cell? ⟨bo, 0, none⟩ = some (.func (.func 71) #[] #[.pointer (some ⟨b0, 0, none⟩), .pointer (some ⟨ba, 0, none⟩)]) := by simp [World.cell?, htm.fo]
    clear hsn hcal hsb htm
    go_upto_region 9 with (fail)
    refine wp_region_lit ?_
    refine wpList_plain rfl fun Kq hKq => ?_
    go_simp
    refine hKq _ _ ?_
    refine wpList_plain rfl fun Kq hKq => ?_
    go_simp
    refine hKq _ _ ?_
    refine wpList_plain rfl fun Kq hKq => ?_
    go_simp
    refine hKq _ _ ?_
    refine wpList_plain rfl fun Kq hKq => ?_
    go_simp
    refine HCAL.out.mono ?_
    rintro e w7 ⟨rfl, htm7, hk7⟩
    refine hKq _ _ ?_
    clear hKq Kq HCAL z1 y0
    have HTM8 := hide htm7
    have HB8 := hide (HTR.out.below HBR.out hk7)
    have HK8 := hide (HKR.out.trans hk7)
    clear htm7 hk7
    refine wpList_plain rfl fun Kq hKq => ?_
    go_simp
    refine hKq _ _ ?_
    refine wpList_plain rfl fun Kq hKq => ?_
    go_simp
    refine hKq _ _ ?_
    refine wpList_nil ?_
    have HS2 := hide (show max n t = (A.take (k + 1)).foldl (fun n id => max n (svcT c (timeF c f) id)) 0 ∧ 0 ≤ max n t ∧ max n t ≤ mostN from ⟨HSN.out.symm, by have := HN.out; have := HT.out; omega, by have := HN.out; have := HT.out; omega⟩)
    go_wp2
    go_roundw
    case rel => exact ⟨k + 1, max n t, hlt, by go_num, by first | rfl | go_num, hide HS2.out, HTM8.out, HB8.out, HK8.out⟩
    case measure => simp [intOf]; omega
   ·obtain rfl : k = A.length := by omega
    have hltz : ¬ (A.length : Int) < A.length := by omega
    have hr := HN.out.1
    rw [List.take_length] at hr
    obtain ⟨n1, hn1⟩ : ∃ z, A.foldl (fun n id => max n (svcT c (timeF c f) id)) 0 = z := ⟨_, rfl⟩
    rw [hn1] at hr HPATH
    subst hr
    have HN1 := hide HN.out.2
    have HC2 := hide (owns_keepM HC1.out HKR.out HTM1.out.ofM)
    have HK2 := hide (HK1.out.trans HKR.out)
    have HTM2 := HTR
    have HB2 := HBR
    clear hn1 htm HN HTM1 HB1 HK1 HC1 HS1 HKR HTR HBR hlt
    generalize wr = w2 at *
    go_wp2_with fail
    go_loopw [10, 46] (fun v10 v46 wr => ∃ (k : Nat) (n2 : Int), k ≤ C.length ∧ v46 = .int .i64 k ∧ v10 = .int .i64 n2 ∧ Hid (n2 = (C.take k).foldl (fun n id => sumM n (svcT c (timeF c f) id)) n ∧ 0 ≤ n2 ∧ n2 ≤ mostN) ∧ TM B wr b0 ba bt bo bm c U ∧ Below B W wr ∧ Keeps (fun q => q = bm) w2 wr) (fun _ k _ => C.length - (intOf k).toNat)
    case atStart => exact ⟨0, n, Nat.zero_le _, rfl, rfl, hide ⟨rfl, HN1.out⟩, HTM2.out, HB2.out, Keeps.refl _ _⟩
    case round =>
     obtain ⟨k, n2, hk, rfl, rfl, hn, htm, hbw, hkp⟩ := hrel
     have HN := hide hn.out
     have HTR := hide htm
     have HBR := hide hbw
     have HKR := hide hkp
     clear hn hbw hkp
     by_cases hlt : k < C.length
     ·have hltz : (k : Int) < C.length := by omega
      have hwk : IntKind.i64.wrap ((k : Int) + 1) = ((k + 1 : Nat) : Int) := by have := HTL.out; rw [IntKind.wrap_i64]; omega
      obtain ⟨pb, po, rfl, hpb, y0⟩ := ints_row (Sl.of_own' (enc := encI) (fun _ => rfl) (owns_keepM HC2.out HKR.out HTM2.out.ofM) : Ints wr (.slice a5 C.length c5) C) k hlt
      have hsn : (C.take (k + 1)).foldl (fun n id => sumM n (svcT c (timeF c f) id)) n = sumM ((C.take k).foldl (fun n id => sumM n (svcT c (timeF c f) id)) n) (svcT c (timeF c f) C[k]) := by rw [take_snoc C k hlt, List.foldl_append]; rfl
      rw [← HN.out.1] at hsn
      have hcal := of_any HCX.out HIH.out C[k] wr HTR.out HBR.out (HDD.out _ (HAB.out _ (.inr (List.getElem_mem hlt))))
      have hsb := HSB.out C[k]
      generalize C[k] = x at y0 hsn hcal hsb
      generalize svcT c (timeF c f) x = t at hsn hcal hsb
      have HSN := hide hsn
      have HCAL := hide hcal
      have HT := hide hsb
      have z1 : wr.cell? ⟨bo, 0, none⟩ = some (.func (.func 71) #[] #[.pointer (some ⟨b0, 0, none⟩), .pointer (some ⟨ba, 0, none⟩)]) := by simp [World.cell?, htm.fo]
      clear hsn hcal hsb htm
      go_upto_region 14 with (fail)
      refine wp_region_lit ?_
      refine wpList_plain rfl fun Kq hKq => ?_
      go_simp
      refine hKq _ _ ?_
      refine wpList_plain rfl fun Kq hKq => ?_
      go_simp
      refine hKq _ _ ?_
      refine wpList_plain rfl fun Kq hKq => ?_
      go_simp
      refine hKq _ _ ?_
      refine wpList_plain rfl fun Kq hKq => ?_
      go_simp
      refine HCAL.out.mono ?_
      rintro e w7 ⟨rfl, htm7, hk7⟩
      refine hKq _ _ ?_
      clear hKq Kq HCAL z1 y0
      have hxa : Ext w7 (w7.alloc (.cells #[.int .i64 n2, .int .i64 t] 3)) := (Below.refl _ _).alloc (Nat.le_refl _) _
      have HSU := hide (fsum_any [n2, t] _ _ (ints_lit2 w7 n2 t) (fun x hx => by
       rcases List.mem_cons.1 hx with rfl | hx
       ·exact HN.out.2
       ·rw [List.mem_singleton.1 hx]
        exact HT.out))
      have hst2 : sumL [n2, t] = sumM n2 t := sumL_two HN.out.2
      rw [hst2] at HSU
      have HTM8 := hide (htm7.ext hxa)
      have HB8 := hide ((HTR.out.below HBR.out hk7).trans (hxa.mono htm7.hB))
      have HK8 := hide ((HKR.out.trans hk7).trans (Keeps.of_ext hxa))
      clear htm7 hk7 hst2 hxa
      refine wpList_plain rfl fun Kq hKq => ?_
      go_simp
      refine hKq _ _ ?_
      refine wpList_plain rfl fun Kq hKq => ?_
      go_simp
      refine HSU.out.mono ?_
      rintro e w8 ⟨rfl, hw8⟩
      refine hKq _ _ ?_
      subst hw8
      clear hKq Kq HSU
      refine wpList_plain rfl fun Kq hKq => ?_
      go_simp
      refine hKq _ _ ?_
      refine wpList_nil ?_
      have HS2 := hide (show sumM n2 t = (C.take (k + 1)).foldl (fun n id => sumM n (svcT c (timeF c f) id)) n ∧ 0 ≤ sumM n2 t ∧ sumM n2 t ≤ mostN from ⟨HSN.out.symm, sumM_bd HN.out.2.1 HT.out.1⟩)
      generalize sumM n2 t = n3 at *
      go_wp2
      go_roundw
      case rel => exact ⟨k + 1, n3, hlt, by go_num, rfl, hide HS2.out, HTM8.out, HB8.out, HK8.out⟩
      case measure => simp [intOf]; omega
     ·obtain rfl : k = C.length := by omega
      have hltz : ¬ (C.length : Int) < C.length := by omega
      have hr := HN.out.1
      rw [List.take_length] at hr
      obtain ⟨n5, hn5⟩ : ∃ z, C.foldl (fun n id => sumM n (svcT c (timeF c f) id)) n = z := ⟨_, rfl⟩
      rw [hn5] at hr HPATH
      subst hr
      have HN5 := hide HN.out.2
      have HK3 := hide (HK2.out.trans HKR.out)
      have HRU := hide (rules33_any c p wr (HCX.out.gc HBR.out).r (HCX.out.gc HBR.out).rk (HCX.out.sz p HPU.out) (HCX.out.gc HBR.out).mx (by have := chk_R HCH.out; omega))
      clear hn5 htm HN HTM2 HB2 HK2 HC2 HKR hlt HN1
      go_upto_region 16 with (fail)
      refine wp_region_lit ?_
      refine wpList_load_mid rfl 30 (.tmp 2) rfl b0 0 rfl (encC c) cd (range_box (HCX.out.conf HBR.out)) hcd1 hcd2 Tryz.confSize ?_
      refine wpList_plain rfl fun Kq hKq => ?_
      go_simp
      refine hKq _ _ ?_
      refine wpList_plain rfl fun Kq hKq => ?_
      go_simp
      refine HRU.out.mono ?_
      rintro e w3 ⟨v3, rfl, hrow, E3⟩
      refine hKq _ _ ?_
      clear hKq Kq HRU
      have HRL := hide (show (onR c.R p).length ≤ 20 from Nat.le_trans HON.out (chk_R HCH.out))
      have HROK := hide (fun r (hr : r ∈ onR c.R p) => ((HCX.out.gc HBR.out).rk r (targ_mem hr)).ext E3)
      generalize onR c.R p = R at *
      obtain ⟨xa, xc, rfl⟩ := owns_shape hrow
      have HRS := hide (Sl.of_own' encR_len hrow : Rules w3 (.slice xa R.length xc) R)
      have HT3 := hide (HTR.out.ext E3)
      have HB3 := hide (HBR.out.trans (E3.mono HTR.out.hB))
      have HK4 := hide (HK3.out.trans (Keeps.of_ext E3))
      clear hrow E3 HTR HBR HK3
      refine wpList_plain rfl fun Kq hKq => ?_
      go_simp
      refine hKq _ _ ?_
      refine wpList_plain rfl fun Kq hKq => ?_
      go_simp
      refine hKq _ _ ?_
      refine wpList_nil ?_
      go_wp2_with fail
      go_loopw [11, 61] (fun v11 v61 wr => ∃ (k : Nat) (m : Int), k ≤ R.length ∧ v61 = .int .i64 k ∧ v11 = .int .i64 m ∧ Hid (m = (R.take k).foldl (fun n r => if 0 < r.de then max n r.ti else n) 0 ∧ 0 ≤ m ∧ m ≤ 10000) ∧ Ext w3 wr) (fun _ k _ => R.length - (intOf k).toNat)
      case atStart => exact ⟨0, 0, Nat.zero_le _, rfl, rfl, hide ⟨rfl, by decide, by decide⟩, Below.refl _ _⟩
      case round =>
       obtain ⟨k, m, hk, rfl, rfl, hm, hext⟩ := hrel
       have HMM := hide hm.out
       have HER := hide hext
       clear hm hext
       by_cases hlt : k < R.length
       ·have hltz : (k : Int) < R.length := by omega
        have hwk : IntKind.i64.wrap ((k : Int) + 1) = ((k + 1 : Nat) : Int) := by have := HRL.out; rw [IntKind.wrap_i64]; omega
        obtain ⟨rb, ro, rfl, hrb, hrg⟩ := rule_row (HRS.out.ext HER.out) k hlt
        have hone := encR_one' R[k] (HROK.out R[k] (List.getElem_mem hlt))
        have hsn : (R.take (k + 1)).foldl (fun n r => if 0 < r.de then max n r.ti else n) 0 = (if 0 < R[k].de then max ((R.take k).foldl (fun n r => if 0 < r.de then max n r.ti else n) 0) R[k].ti else (R.take k).foldl (fun n r => if 0 < r.de then max n r.ti else n) 0) := by rw [take_snoc R k hlt, List.foldl_append]; rfl
        rw [← HMM.out.1] at hsn
        have hti := HTI.out R[k] (List.getElem_mem hlt)
        generalize R[k] = r at hrg hone hsn hti
        go_upto_region 18 with (fail)
        refine wp_region_lit ?_
        refine wpList_plain rfl fun Kq hKq => ?_
        go_simp
        refine hKq _ _ ?_
        refine wpList_load_mid rfl 54 (.tmp 63) rfl rb (ro + k * 19) rfl (encR r) dd hrg hd1 hd2 Tryz.ruleSize ?_
        refine wpList_box rfl 54 rfl rfl (.tmp 17) (.tmp 64) rfl (encR r) _ allocR rfl rfl rfl Tryz.ruleSize hone fun w5 hb5 E5 => ?_
        refine wpList_nil ?_
        simp only [Act.put, List.setIfInBounds_toArray, List.set_cons_succ, List.set_cons_zero]
        obtain ⟨g, hg⟩ : ∃ g, wr.heap.size = g := ⟨_, rfl⟩
        rw [hg] at hb5 ⊢
        have d6 : w5.cell? ⟨g, 6, none⟩ = some (.int .i64 r.de) := cell_box hb5 6 _ rfl
        have d7 : w5.cell? ⟨g, 7, none⟩ = some (.int .i64 r.ti) := cell_box hb5 7 _ rfl
        have HE5 := hide (HER.out.trans E5)
        clear hb5 E5 hrg hone hg
        generalize r.de = de at *
        generalize r.ti = ti at *
        by_cases hde : 0 < de
        ·rw [if_pos hde] at hsn
         have HS2 := hide (show max m ti = (R.take (k + 1)).foldl (fun n r => if 0 < r.de then max n r.ti else n) 0 ∧ 0 ≤ max m ti ∧ max m ti ≤ 10000 from ⟨hsn.symm, by have := HMM.out; omega, by have := HMM.out; omega⟩)
         have hgt : de > 0 := hde
         clear hsn hti
         go_wp2
         go_roundw
         case rel => exact ⟨k + 1, max m ti, hlt, by go_num, by first | rfl | go_num, hide HS2.out, HE5.out⟩
         case measure => simp [intOf]; omega
        ·rw [if_neg hde] at hsn
         have HS2 := hide (show m = (R.take (k + 1)).foldl (fun n r => if 0 < r.de then max n r.ti else n) 0 ∧ 0 ≤ m ∧ m ≤ 10000 from ⟨hsn.symm, HMM.out.2⟩)
         have hgt : ¬ de > 0 := hde
         clear hsn hti
         go_wp2
         go_roundw
         case rel => exact ⟨k + 1, m, hlt, by go_num, rfl, hide HS2.out, HE5.out⟩
         case measure => simp [intOf]; omega
       ·obtain rfl : k = R.length := by omega
        have hltz : ¬ (R.length : Int) < R.length := by omega
        have hr := HMM.out.1
        rw [List.take_length] at hr
        have hpa := HPATH.out
        rw [← hr] at hpa
        have HRES := hide hpa
        have HCB := hide (show ∀ x ∈ [n2, m], 0 ≤ x ∧ x ≤ mostN from fun x hx => by
         rcases List.mem_cons.1 hx with rfl | hx
         ·exact HN5.out
         ·rw [List.mem_singleton.1 hx]
          have := HMM.out.2
          unfold mostN
          omega)
        have HT9 := hide (HT3.out.ext HER.out)
        have HK9 := hide (HK4.out.trans (Keeps.of_ext HER.out))
        obtain ⟨F9, hm9, hF9⟩ := HT9.out.map
        have HM9 := hide hm9
        have HF9 := hide hF9
        clear hr hpa hm9 hF9 HT3 HK4 HMM HPATH hlt
        generalize n2 = n at *
        go_upto_region 22 with (fail)
        generalize wr = W9 at *
        refine wp_region_rw 84 [4, 6] [75, 76, 77, 78, 79, 80] (PhTm W9 bm (U.length + 1) (fun q => if q = p then some (.int .i64 (sumM n m)) else (F9 q).map (Value.int .i64)) [n, m]) (fun (t : Nat) (wI : World) (v : Value) => match t with | 75 => v = (.map (some bm)) | 76 => v = (.string p) | 77 => v = (.int .i64 n) | 78 => v = (.int .i64 m) | 80 => v = (.int .i64 (sumM n m)) | _ => True) (fun _ _ => True) (by kernel_rfl) rfl (by kernel_rfl) (by kernel_rfl) (by kernel_rfl) (by kernel_rfl) ?_ ?_ ?_ ?_ ?_ ?_ ?_
        ·intro w' w'' h
         trivial
        ·intro t w' w'' v hR hv
         exact hv
        ·intro vs w' w'' h e
         exact h.keep e
        ·exact (Below.refl _ _).drew
        ·intro i o ho hmi vs X w' hpk hph hX hI hF K hK
         have hin : i < 7 := (Array.getElem?_eq_some_iff.1 ho).1
         have hi : i = 0 ∨ i = 1 ∨ i = 2 ∨ i = 3 ∨ i = 4 ∨ i = 5 ∨ i = 6 := by omega
         rcases hi with rfl | rfl | rfl | rfl | rfl | rfl | rfl
         ·obtain rfl := Option.some.inj ho
          have e1 : X 1 = (.pointer (some ⟨bt, 0, none⟩)) := hF 1 (by omega) (by kernel_rfl)
          have hx := hph.x ((hpk 1 (by decide)).2 (by kernel_rfl))
          have d0 : w'.cell? ⟨bt, 0, none⟩ = some (.map (some bm)) := by simp [World.cell?, (HT9.out.ext hx).tb]
          unfold wpOp
          simp only [ho]
          rw [if_pos (by rfl)]
          left
          rw [frame84]
          go_simp
          refine metK (hK.out ((.map (some bm))) _ (Below.refl _ _) (fun d hd => by cases hd; exact rfl)) ?_
          simp [frame84, Act.put, *]
         ·obtain rfl := Option.some.inj ho
          have e0 : X 0 = (.string p) := hF 0 (by omega) (by kernel_rfl)
          unfold wpOp
          simp only [ho]
          rw [if_pos (by rfl)]
          left
          rw [frame84]
          go_simp
          refine metK (hK.out ((.string p)) _ (Below.refl _ _) (fun d hd => by cases hd; exact rfl)) ?_
          simp [frame84, Act.put, *]
         ·obtain rfl := Option.some.inj ho
          have e10 : X 10 = (.int .i64 n) := hF 10 (by omega) (by kernel_rfl)
          unfold wpOp
          simp only [ho]
          rw [if_pos (by rfl)]
          left
          rw [frame84]
          go_simp
          refine metK (hK.out ((.int .i64 n)) _ (Below.refl _ _) (fun d hd => by cases hd; exact rfl)) ?_
          simp [frame84, Act.put, *]
         ·obtain rfl := Option.some.inj ho
          have e11 : X 11 = (.int .i64 m) := hF 11 (by omega) (by kernel_rfl)
          unfold wpOp
          simp only [ho]
          rw [if_pos (by rfl)]
          left
          rw [frame84]
          go_simp
          refine metK (hK.out ((.int .i64 m)) _ (Below.refl _ _) (fun d hd => by cases hd; exact rfl)) ?_
          simp [frame84, Act.put, *]
         ·exact absurd hmi (by decide)
         ·obtain rfl := Option.some.inj ho
          have e79 : X 79 = vs.getD 0 undef := hX 0 79 ((hpk 0 (by decide)).1 (by kernel_rfl)) (by kernel_rfl)
          have h1 := (hpk 0 (by decide)).1 (by kernel_rfl)
          have h2 := (hpk 1 (by decide)).2 (by kernel_rfl)
          obtain ⟨u79, rfl⟩ : ∃ u, vs = [u] := by
           rcases vs with _ | ⟨u, _ | ⟨u2, vs⟩⟩
           ·simp at h1
           ·exact ⟨u, rfl⟩
           ·simp at h2
          have e79 : X 79 = u79 := e79
          obtain ⟨hx, hi⟩ := hph
          unfold wpOp
          simp only [ho]
          rw [if_pos (by rfl)]
          left
          rw [frame84]
          go_simp
          refine (fsum_any [n, m] u79 w' hi HCB.out).mono ?_
          rintro e w9 ⟨rfl, hw⟩
          subst hw
          rw [sumL_two (HCB.out n (List.mem_cons_self ..))]
          refine metK (hK.out (.int .i64 (sumM n m)) w' (Below.refl _ _) (fun d hd => by cases hd; exact rfl)) ?_
          simp [frame84, Act.put, *]
         ·exact absurd hmi (by decide)
        ·intro i o ho hmi vs X w' hqi hql hph hX hI hF K hK
         rcases vs with _ | ⟨v0, _ | ⟨v1, _⟩⟩
         ·obtain rfl : 4 = i := hqi
          obtain rfl := Option.some.inj ho
          have e77 : X 77 = _ := hI 77 (by kernel_rfl) (by kernel_rfl)
          have e78 : X 78 = _ := hI 78 (by kernel_rfl) (by kernel_rfl)
          have hx : Ext W9 w' := hph
          have hxa : Ext w' (w'.alloc (.cells #[.int .i64 n, .int .i64 m] 3)) := (Below.refl _ _).alloc (Nat.le_refl _) _
          unfold wpOp
          simp only [ho]
          rw [if_pos (by rfl)]
          left
          rw [frame84]
          go_simp
          refine metK (hK.out (.slice (some ⟨w'.heap.size, 0, none⟩) 2 2) (w'.alloc (.cells #[.int .i64 n, .int .i64 m] 3)) ⟨hx.trans hxa, ints_lit2 w' n m⟩ trivial) ?_
          simp [frame84, Act.put, *]
         ·obtain rfl : 6 = i := hqi
          obtain rfl := Option.some.inj ho
          have e75 : X 75 = _ := hI 75 (by kernel_rfl) (by kernel_rfl)
          have e76 : X 76 = _ := hI 76 (by kernel_rfl) (by kernel_rfl)
          have e80 : X 80 = _ := hI 80 (by kernel_rfl) (by kernel_rfl)
          obtain ⟨hx, -⟩ := hph
          have hs := HM9.out.ext hx
          unfold wpOp
          simp only [ho]
          rw [if_pos (by rfl)]
          left
          rw [frame84]
          refine wp_mv_put (.tmp 75) (.tmp 76) (.tmp 80) 118 rfl hs strLit_inj keyedS Tryz.underlying118 (by have := HUL.out; unfold maxLen; omega) (by simp [Act.eval, *]) (.string p) (.int .i64 (sumM n m)) (by simp [Act.eval, *]) (by simp [Act.eval, *]) (y := p) HKP.out (fun w9 hm9 ht9 => ?_)
          refine metK (hK.out undef _ ⟨w', w9, hx, ht9, hm9, Below.refl _ _⟩ trivial) ?_
          simp [frame84, Act.put, *]
         ·simp at hql <;> omega
        ·intro vs X w' hlen hph hX hI
         have e75 : X 75 = _ := hI 75 (by omega) (by kernel_rfl) (by kernel_rfl)
         have e76 : X 76 = _ := hI 76 (by omega) (by kernel_rfl) (by kernel_rfl)
         have e77 : X 77 = _ := hI 77 (by omega) (by kernel_rfl) (by kernel_rfl)
         have e78 : X 78 = _ := hI 78 (by omega) (by kernel_rfl) (by kernel_rfl)
         have e80 : X 80 = _ := hI 80 (by omega) (by kernel_rfl) (by kernel_rfl)
         rcases vs with _ | ⟨v0, _ | ⟨v1, _ | ⟨vz, vs⟩⟩⟩
         ·simp at hlen
         ·simp at hlen
         rotate_left
         ·simp at hlen
         have e79 : X 79 = v0 := hX 0 79 (by simp) (by kernel_rfl)
         clear hX hI hlen
         simp only [overF, List.foldl_cons, List.foldl_nil, List.setIfInBounds_toArray, List.set_cons_succ, List.set_cons_zero, e75, e76, e77, e78, e79, e80]
         obtain ⟨w8, w9, E8, ht8, hm9, E9⟩ := hph
         have hres := HRES.out
         have hput := HT9.out.put HPU.out HDF.out HF9.out E8 ht8 (hm9.congr fun q => by rw [hres]) E9
         have HTZ := hide hput
         have HMZ := hide (hm9.ext E9)
         have HKZ := hide (show Keeps (fun q => q = bm) w w' from (((HK9.out.trans (Keeps.of_ext E8)).trans (turned_keeps ht8)).trans (Keeps.of_ext E9)))
         have HGV := hide (show ((if p = p then some (Value.int .i64 (sumM n m)) else (F9 p).map (Value.int .i64))).getD (.int .i64 0) = .int .i64 (sumM n m) by rw [if_pos rfl]; rfl)
         have z1 : w'.cell? ⟨bt, 0, none⟩ = some (.map (some bm)) := by simp [World.cell?, hput.tb]
         clear E8 ht8 hm9 E9 w8 w9 hput hres e75 e76 e77 e78 e79 e80
         go_wp2_with (at_lookup; refine wpList_mv_look _ rfl _ _ _ rfl HMZ.out keyedS Tryz.underlying118 (zeroI _) rfl _ rfl HKP.out _ HGV.out ?_)
         go_ret
         exact ⟨by rw [HRES.out]; rfl, HTZ.out, HKZ.out⟩
end Go.Proofs.YtceaeiaoanhlnaaGreatDoor
namespace Go.Proofs.YtceaeiaoanhlnaaGreatDoor
open Go.ChangeShapes Go.WideShapes Go.ChangeAt Go.RowKit Go.Lib Go.Shelf Go.Maps
theorem at_any {B : Nat} {W : World} {b0 ba bt bo bm : Nat} {c : ConfD} {U : List ByteArray} (cx : TCx B W b0 c U) : ∀ f, AtOk B W b0 ba bt bo bm c U f
 | 0 => fun _ _ _ _ _ hd => absurd hd id
 | f + 1 => at_step cx (at_any cx f)
theorem tm_start (W : World) (B b0 : Nat) (hB : W.heap.size = B) (c : ConfD) (U : List ByteArray) :
  ((((W.alloc (.map #[] 0)).alloc (.cells #[.map (some B)] 118)).alloc (.cells #[.nilFunc] 119)).alloc (.cells #[.func (.func 71) #[] #[.pointer (some ⟨b0, 0, none⟩), .pointer (some ⟨B + 1 + 1, 0, none⟩)]] 120)).heap[B + 1 + 1]? = some (.cells #[.nilFunc] 119 (0, 0)) ∧
  TM B (((((W.alloc (.map #[] 0)).alloc (.cells #[.map (some B)] 118)).alloc (.cells #[.nilFunc] 119)).alloc (.cells #[.func (.func 71) #[] #[.pointer (some ⟨b0, 0, none⟩), .pointer (some ⟨B + 1 + 1, 0, none⟩)]] 120)).setCell ⟨B + 1 + 1, 0, none⟩ (.func (.func 72) #[] #[.pointer (some ⟨B + 1, 0, none⟩), .pointer (some ⟨b0, 0, none⟩), .pointer (some ⟨B + 1 + 1 + 1, 0, none⟩)])) b0 (B + 1 + 1) (B + 1) (B + 1 + 1 + 1) B c U ∧
  Below B W (((((W.alloc (.map #[] 0)).alloc (.cells #[.map (some B)] 118)).alloc (.cells #[.nilFunc] 119)).alloc (.cells #[.func (.func 71) #[] #[.pointer (some ⟨b0, 0, none⟩), .pointer (some ⟨B + 1 + 1, 0, none⟩)]] 120)).setCell ⟨B + 1 + 1, 0, none⟩ (.func (.func 72) #[] #[.pointer (some ⟨B + 1, 0, none⟩), .pointer (some ⟨b0, 0, none⟩), .pointer (some ⟨B + 1 + 1 + 1, 0, none⟩)])) := by
 subst hB
 have e1 : Ext W (W.alloc (.map #[] 0)) := (Below.refl _ _).alloc (Nat.le_refl _) _
 have n1 := MapV.made litS W 9
 have z1 : (W.alloc (.map #[] 0)).heap.size = W.heap.size + 1 := by simp
 generalize W.alloc (.map #[] 0) = W1 at *
 have e2 : Ext W1 (W1.alloc (.cells #[.map (some W.heap.size)] 118)) := (Below.refl _ _).alloc (Nat.le_refl _) _
 have n2 := heap_alloc_new W1 (.cells #[.map (some W.heap.size)] 118)
 have z2 : (W1.alloc (.cells #[.map (some W.heap.size)] 118)).heap.size = W.heap.size + 1 + 1 := by simp [z1]
 rw [z1] at n2
 generalize W1.alloc (.cells #[.map (some W.heap.size)] 118) = W2 at *
 have e3 : Ext W2 (W2.alloc (.cells #[.nilFunc] 119)) := (Below.refl _ _).alloc (Nat.le_refl _) _
 have n3 := heap_alloc_new W2 (.cells #[.nilFunc] 119)
 have z3 : (W2.alloc (.cells #[.nilFunc] 119)).heap.size = W.heap.size + 1 + 1 + 1 := by simp [z2]
 rw [z2] at n3
 generalize W2.alloc (.cells #[.nilFunc] 119) = W3 at *
 have e4 : Ext W3 (W3.alloc (.cells #[.func (.func 71) #[] #[.pointer (some ⟨b0, 0, none⟩), .pointer (some ⟨W.heap.size + 1 + 1, 0, none⟩)]] 120)) := (Below.refl _ _).alloc (Nat.le_refl _) _
 have n4 := heap_alloc_new W3 (.cells #[.func (.func 71) #[] #[.pointer (some ⟨b0, 0, none⟩), .pointer (some ⟨W.heap.size + 1 + 1, 0, none⟩)]] 120)
 rw [z3] at n4
 generalize W3.alloc (.cells #[.func (.func 71) #[] #[.pointer (some ⟨b0, 0, none⟩), .pointer (some ⟨W.heap.size + 1 + 1, 0, none⟩)]] 120) = W4 at *
 have m3 : W4.heap[W.heap.size + 1 + 1]? = some (.cells #[.nilFunc] 119 (0, 0)) := (e4.block _ (by omega)).trans n3
 have m2 : W4.heap[W.heap.size + 1]? = some (.cells #[.map (some W.heap.size)] 118 (0, 0)) := ((e3.trans e4).block _ (by omega)).trans n2
 have hS := Keeps.of_set (X := fun q => q = W.heap.size + 1 + 1) W4 (W.heap.size + 1 + 1) 0 (.func (.func 72) #[] #[.pointer (some ⟨W.heap.size + 1, 0, none⟩), .pointer (some ⟨b0, 0, none⟩), .pointer (some ⟨W.heap.size + 1 + 1 + 1, 0, none⟩)]) rfl
 have hE := e1.trans (e2.trans (e3.trans e4))
 have hm : MapV litS (W4.setCell ⟨W.heap.size + 1 + 1, 0, none⟩ (.func (.func 72) #[] #[.pointer (some ⟨W.heap.size + 1, 0, none⟩), .pointer (some ⟨b0, 0, none⟩), .pointer (some ⟨W.heap.size + 1 + 1 + 1, 0, none⟩)])) 9 W.heap.size 0 (fun _ => none) := (n1.ext (e2.trans (e3.trans e4))).keepB (hS.block _ (by have := (e2.trans (e3.trans e4)).size; omega) (by omega))
 have hB := hS.below (B := W.heap.size) hE.size (fun q hq => by omega)
 refine ⟨m3, ⟨by omega, by omega, by omega, Nat.le_refl _, Nat.le_trans hE.size hS.size, ?_, (hS.block _ (Array.getElem?_eq_some_iff.1 m2).1 (by omega)).trans m2, (hS.block _ (Array.getElem?_eq_some_iff.1 n4).1 (by omega)).trans n4, fun _ => none, ?_, fun q z hz => by cases hz⟩, Below.trans (show Below W.heap.size W W4 from hE) hB⟩
 ·have := ArrB.set m3 0 (.func (.func 72) #[] #[.pointer (some ⟨W.heap.size + 1, 0, none⟩), .pointer (some ⟨b0, 0, none⟩), .pointer (some ⟨W.heap.size + 1 + 1 + 1, 0, none⟩)])
  simpa using this
 ·exact (hm.mono (Nat.zero_le _)).congr fun q => rfl
set_option maxRecDepth 100000 in
set_option maxHeartbeats 8000000 in
theorem timeof_any (c : ConfD) (p : ByteArray) (w : World) (h : GC w c) (hp : SzB p) (hd : Deep c (c.S.length + 1) p) :
  Calls Tryz.prog 38 #[.agg (encC c).toArray, .string p] w fun e w' => e = .returned (.int .i64 (timeC c p)) ∧ Ext w w' := by
 have hmm := @run_makeMap Tryz.prog
 have hx : Ext w (w.alloc (.cells (encC c).toArray 30)) := (Below.refl _ _).alloc (Nat.le_refl _) _
 have hb1 := heap_alloc_new w (.cells (encC c).toArray 30)
 have hg := h.ext hx
 have hz : ∀ q ∈ p :: allK c, SzB q := fun q hq => by
  rcases List.mem_cons.1 hq with rfl | hq
  ·exact hp
  ·exact kids_sz h q hq
 have hul : (p :: allK c).length ≤ 2000 := by have := allK_len h.chk; simp; omega
 have HD := hide hd
 clear h hp hd
 go_enter Tryz.func38, Tryz.ntmps38
 go_upto_region 1 with (fail)
 show Code.wp _ _ _ _ (w.alloc (.cells (encC c).toArray 30))
 generalize w.alloc (.cells (encC c).toArray 30) = W at hx hb1 hg ⊢
 have HX := hide hx
 obtain ⟨b0, hb0⟩ : ∃ b, w.heap.size = b := ⟨_, rfl⟩
 rw [hb0] at hb1 ⊢
 obtain ⟨B, hB⟩ : ∃ B, W.heap.size = B := ⟨_, rfl⟩
 have HCX := hide (show TCx B W b0 c (p :: allK c) from ⟨hg, by omega, hb1, fun k hk => List.mem_cons_of_mem _ hk, hz, hul⟩)
 clear hx hb1 hg hz hul hb0
 go_upto_region 4 with (fail)
 have hst := tm_start W B b0 hB c (p :: allK c)
 show Code.wp _ _ _ _ ((((W.alloc (.map #[] 0)).alloc (.cells #[.map (some B)] 118)).alloc (.cells #[.nilFunc] 119)).alloc (.cells #[.func (.func 71) #[] #[.pointer (some ⟨b0, 0, none⟩), .pointer (some ⟨B + 1 + 1, 0, none⟩)]] 120))
 generalize ((((W.alloc (.map #[] 0)).alloc (.cells #[.map (some B)] 118)).alloc (.cells #[.nilFunc] 119)).alloc (.cells #[.func (.func 71) #[] #[.pointer (some ⟨b0, 0, none⟩), .pointer (some ⟨B + 1 + 1, 0, none⟩)]] 120)) = W4 at hst ⊢
 obtain ⟨m3, htm, hbw⟩ := hst
 have c3 : W4.cell? ⟨B + 1 + 1, 0, none⟩ = some .nilFunc := by simp [World.cell?, m3]
 have z3 : W4.frozen? ⟨B + 1 + 1, 0, none⟩ = false := by simp [World.frozen?, m3]
 have HTM := hide htm
 have HBW := hide hbw
 have HB0 := hide hB
 clear htm hbw m3 hB
 go_upto_region 5 with (fail)
 generalize W4.setCell _ _ = W5 at HTM HBW ⊢
 clear c3 z3
 have c5 : W5.cell? ⟨B + 1 + 1, 0, none⟩ = some (.func (.func 72) #[] #[.pointer (some ⟨B + 1, 0, none⟩), .pointer (some ⟨b0, 0, none⟩), .pointer (some ⟨B + 1 + 1 + 1, 0, none⟩)]) := by simp [World.cell?, HTM.out.fa]
 have HC := hide (at_any HCX.out (c.S.length + 1) p W5 HTM.out HBW.out (List.mem_cons_self ..) HD.out)
 go_wp2_with (go_at_call 72; refine HC.out.mono ?_; rintro e w6 ⟨rfl, htm6, hk6⟩; have HZ := hide (HX.out.trans ((HTM.out.below HBW.out hk6).mono HCX.out.hW)); clear htm6 hk6)
 go_ret
 exact ⟨rfl, HZ.out⟩
end Go.Proofs.YtceaeiaoanhlnaaGreatDoor
namespace Go.Proofs.YtceaeiaoanhlnaaGreatDoor
open Go.ChangeShapes Go.WideShapes Go.ChangeAt Go.RowKit Go.Lib Go.Shelf Go.Maps
theorem great_at {c : ConfD} (tgt : Int) (d : Nat) {l : List Int} (hl : ∀ x ∈ l, thereB c.S x = true) : great l (fun x => (lvF c tgt d x).getD 0) = great l (lvl (kidsG c) tgt d) :=
 great_congr l 0 fun x hx => by rw [lvF_there (hl x hx)]; rfl
set_option maxRecDepth 100000 in
set_option maxHeartbeats 16000000 in
theorem room_any (c : ConfD) (p : ByteArray) (w : World) (h : GC w c) (hp : SzB p) :
  Calls Tryz.prog 39 #[.agg (encC c).toArray, .string p] w fun e w' => e = .returned (.bool (roomB c p)) ∧ Ext w w' := by
 obtain ⟨cd, hcd1, hcd2⟩ := Tryz.confDesc
 obtain ⟨dv, hd1, hd2⟩ := Tryz.svcDesc
 have hx : Ext w (w.alloc (.cells (encC c).toArray 30)) := (Below.refl _ _).alloc (Nat.le_refl _) _
 have hb1 := heap_alloc_new w (.cells (encC c).toArray 30)
 obtain ⟨hl', aS, cS, hvS⟩ := h.s.shape
 have HSV := hide (show Svcs (w.alloc (.cells (encC c).toArray 30)) (.slice aS c.S.length cS) c.S by rw [← hvS]; exact h.s.ext hx)
 have HCS := hide (show (encC c)[0]? = some (.slice aS c.S.length cS) by rw [← hvS]; rfl)
 have HTA := hide (targetsG_any c p _ (h.ext hx) hp)
 have HTL := hide (targ_len h.chk p)
 have HTF := hide (targ_fit h.chk p)
 have HTH := hide (fun x (hx : x ∈ bothP c.R p) => lead_there (chk_lead h.chk) hx)
 have HSL := hide (chk_S h.chk)
 have HNU := hide (chk_num h.chk)
 have HTEN := hide (fun x (hx : thereB c.S x = true) => there_ten h.chk hx)
 have HKS := hide (ksh_of h)
 have hg := h.ext hx
 have HAB := hide (show ∀ x, x ∈ targS c.R p ∨ x ∈ targC c.R p → x ∈ bothP c.R p from fun x hx => List.mem_append.2 hx)
 have HCN := hide (show ∀ s, roomS c p s = (decide ((targC c.R p).foldl (fun n x => sumM n (lvl (kidsG c) s.id 10 x)) (great (targS c.R p) (lvl (kidsG c) s.id 10)) ≤ s.queue) && decide ((targC c.R p).foldl (fun n x => sumM n (lvl (kidsG c) s.id 10 x)) (great (targS c.R p) (lvl (kidsG c) s.id 10)) ≤ c.low + c.wait)) from fun s => rfl)
 unfold roomB
 clear h hp hvS hl'
 go_enter Tryz.func39, Tryz.ntmps39
 go_upto_region 1 with (fail)
 show Code.wp _ _ _ _ (w.alloc (.cells (encC c).toArray 30))
 generalize w.alloc (.cells (encC c).toArray 30) = W at hx hb1 hg HSV HTA ⊢
 have HX := hide hx
 obtain ⟨b0, hb0⟩ : ∃ b, w.heap.size = b := ⟨_, rfl⟩
 rw [hb0] at hb1 ⊢
 have HBX := hide (fun X (hX : Ext W X) => (hX.block b0 (Array.getElem?_eq_some_iff.1 hb1).1).trans hb1)
 have HG := hide (fun (X : World) (hX : Ext W X) => hg.ext hX)
 clear hx hb0 hg
 refine wp_region_lit ?_
 refine wpList_load_mid rfl 30 (.tmp 2) rfl b0 0 rfl (encC c) cd (range_box hb1) hcd1 hcd2 Tryz.confSize ?_
 clear hb1
 refine wpList_plain rfl fun Kq hKq => ?_
 go_simp
 refine hKq _ _ ?_
 refine wpList_plain rfl fun Kq hKq => ?_
 go_simp
 refine HTA.out.mono ?_
 rintro e w1 ⟨v1, v2, rfl, hts⟩
 refine hKq _ _ ?_
 clear hKq Kq HTA
 generalize targS c.R p = A at *
 generalize targC c.R p = C at *
 obtain ⟨a4, c4, rfl⟩ := owns_shape hts.s
 obtain ⟨a5, c5, rfl⟩ := owns_shape hts.c
 have HIA := hide (Sl.of_own' (enc := encI) (fun _ => rfl) hts.s : Ints w1 (.slice a4 A.length c4) A)
 have HIC := hide (Sl.of_own' (enc := encI) (fun _ => rfl) hts.c : Ints w1 (.slice a5 C.length c5) C)
 have HE1 := hide hts.ext
 clear hts
 refine wpList_plain rfl fun Kq hKq => ?_
 go_simp
 refine hKq _ _ ?_
 refine wpList_plain rfl fun Kq hKq => ?_
 go_simp
 refine hKq _ _ ?_
 refine wpList_plain rfl fun Kq hKq => ?_
 go_simp
 refine hKq _ _ ?_
 refine wpList_plain rfl fun Kq hKq => ?_
 go_simp
 refine hKq _ _ ?_
 refine wpList_plain rfl fun Kq hKq => ?_
 go_simp
 refine hKq _ _ ?_
 refine wpList_nil ?_
 have c0 : w1.cell? ⟨b0, 0, none⟩ = some (.slice aS c.S.length cS) := cell_box (HBX.out w1 HE1.out) 0 _ HCS.out
 go_wp2_with fail
 clear c0
 go_loopw [22] (fun v22 wr => ∃ k : Nat, k ≤ c.S.length ∧ v22 = .int .i64 k ∧ Hid ((c.S.take k).all (roomS c p) = true) ∧ Ext w1 wr) (fun k _ => c.S.length - (intOf k).toNat)
 case atStart => exact ⟨0, Nat.zero_le _, rfl, hide rfl, Below.refl _ _⟩
 case round =>
  obtain ⟨k, hk, rfl, hal, hext⟩ := hrel
  have HAL := hide hal.out
  have HE := hide hext
  clear hal hext
  by_cases hlt : k < c.S.length
  ·have hltz : (k : Int) < c.S.length := by omega
   have hwk : IntKind.i64.wrap ((k : Int) + 1) = ((k + 1 : Nat) : Int) := by have := HSL.out; rw [IntKind.wrap_i64]; omega
   obtain ⟨b, off, rfl, hbb, hr⟩ := svcs_row (HSV.out.ext (HE1.out.trans HE.out)) k hlt
   obtain ⟨ka, kn, kc, hkv⟩ := HKS.out c.S[k] (List.getElem_mem hlt)
   have hth : thereB c.S c.S[k].id = true := List.any_eq_true.2 ⟨_, List.getElem_mem hlt, by simp⟩
   have hid : I64 c.S[k].id := by have := HTEN.out _ hth; unfold I64; omega
   have hsn : (c.S.take (k + 1)).all (roomS c p) = ((c.S.take k).all (roomS c p) && roomS c p c.S[k]) := by rw [take_snoc c.S k hlt, List.all_append]; simp
   rw [HAL.out, Bool.true_and, HCN.out] at hsn
   have hno : roomS c p c.S[k] = false → c.S.all (roomS c p) = false := fun h => by
    rw [List.all_eq_false]
    exact ⟨_, List.getElem_mem hlt, by rw [h]; decide⟩
   rw [HCN.out] at hno
   generalize c.S[k] = s at hr hkv hid hsn hno
   clear hth
   go_upto_region 4 with (fail)
   refine wp_region_lit ?_
   refine wpList_plain rfl fun Kq hKq => ?_
   go_simp
   refine hKq _ _ ?_
   refine wpList_load_mid rfl 62 (.tmp 24) rfl b (off + k * 7) rfl (encV s) dv hr hd1 hd2 Tryz.svcSize ?_
   refine wpList_box rfl 62 rfl rfl (.tmp 8) (.tmp 25) rfl (encV s) _ allocV rfl rfl rfl Tryz.svcSize (encV_ones hkv) fun W3 hb3 E3 => ?_
   refine wpList_nil ?_
   simp only [Act.put, List.setIfInBounds_toArray, List.set_cons_succ, List.set_cons_zero]
   obtain ⟨g, hg⟩ : ∃ g, wr.heap.size = g := ⟨_, rfl⟩
   rw [hg] at hb3 ⊢
   have d0 : W3.cell? ⟨g, 0, none⟩ = some (.int .i64 s.id) := cell_box hb3 0 _ rfl
   have HQC := hide (fun (Y : World) (hY : Ext W3 Y) => cell_box ((hY.block g (Array.getElem?_eq_some_iff.1 hb3).1).trans hb3) 4 (.int .i64 s.queue) rfl)
   have HE3 := hide (HE.out.trans E3)
   have HSN := hide hsn
   have HNO := hide hno
   clear hb3 E3 hg hr hkv hsn hno
   obtain ⟨sid, hsid⟩ : ∃ z, s.id = z := ⟨_, rfl⟩
   obtain ⟨sq, hsq⟩ : ∃ z, s.queue = z := ⟨_, rfl⟩
   simp only [hsid, hsq] at d0 HQC HSN HNO hid
   clear hsid hsq
   have HID := hide hid
   have HWA := hide (walks_any c sid 10 W3 (HG.out W3 (HE1.out.trans HE3.out)) hid (by decide))
   clear hid
   go_upto_region 5 with (fail)
   refine wp_region_lit ?_
   refine wpList_load_mid rfl 30 (.tmp 2) rfl b0 0 rfl (encC c) cd (range_box (HBX.out W3 (HE1.out.trans HE3.out))) hcd1 hcd2 Tryz.confSize ?_
   refine wpList_plain rfl fun Kq hKq => ?_
   go_simp
   refine hKq _ _ ?_
   refine wpList_plain rfl fun Kq hKq => ?_
   go_simp
   refine hKq _ _ ?_
   refine wpList_plain rfl fun Kq hKq => ?_
   go_simp
   refine HWA.out.mono ?_
   rintro e w4 ⟨bm, rfl, ⟨nm, him⟩, E4⟩
   refine hKq _ _ ?_
   clear hKq Kq HWA d0
   have HIM := hide him
   have HE4 := hide (HE3.out.trans E4)
   have HQC4 := hide (fun (Y : World) (hY : Ext w4 Y) => HQC.out Y (E4.trans hY))
   have hgr := greatest_any A _ bm nm (lvF c sid 10) w4 (HIA.out.ext HE4.out) (fun x hx => by have := HTF.out x (HAB.out x (.inl hx)); unfold I64; omega) him
   rw [great_at sid 10 fun x hx => HTH.out x (HAB.out x (.inl hx))] at hgr
   obtain ⟨gr, hgre⟩ : ∃ z, great A (lvl (kidsG c) sid 10) = z := ⟨_, rfl⟩
   have hgb : 0 ≤ gr ∧ gr ≤ mostN := by rw [← hgre]; exact great_bd fun z => (lvl_bd _ _ _ z).2
   simp only [hgre] at hgr HSN HNO
   have HGR := hide hgr
   have HGB := hide hgb
   clear him E4 hgr hgb hgre HQC
   refine wpList_plain rfl fun Kq hKq => ?_
   go_simp
   refine hKq _ _ ?_
   refine wpList_nil ?_
   go_wp2_with fail
   refine HGR.out.mono ?_
   rintro e w5 ⟨rfl, hw5⟩
   subst hw5
   go_wp2_with fail
   go_loopw [10, 35] (fun v10 v35 wr => ∃ (j : Nat) (n : Int), j ≤ C.length ∧ v35 = .int .i64 j ∧ v10 = .int .i64 n ∧ Hid (n = (C.take j).foldl (fun n x => sumM n (lvl (kidsG c) sid 10 x)) gr ∧ 0 ≤ n ∧ n ≤ mostN) ∧ Ext w4 wr) (fun _ j _ => C.length - (intOf j).toNat)
   case atStart => exact ⟨0, gr, Nat.zero_le _, rfl, rfl, hide ⟨rfl, HGB.out⟩, Below.refl _ _⟩
   case round =>
    obtain ⟨j, n, hj, rfl, rfl, hn, hext⟩ := hrel
    have HN := hide hn.out
    have HEJ := hide hext
    clear hn hext
    by_cases hltj : j < C.length
    ·have hltjz : (j : Int) < C.length := by omega
     have hwj : IntKind.i64.wrap ((j : Int) + 1) = ((j + 1 : Nat) : Int) := by have := HTL.out; rw [IntKind.wrap_i64]; omega
     obtain ⟨pb, po, rfl, hpb, y0⟩ := ints_row (HIC.out.ext (HE4.out.trans HEJ.out)) j hltj
     have hst : (C.take (j + 1)).foldl (fun n x => sumM n (lvl (kidsG c) sid 10 x)) gr = sumM ((C.take j).foldl (fun n x => sumM n (lvl (kidsG c) sid 10 x)) gr) (lvl (kidsG c) sid 10 C[j]) := by rw [take_snoc C j hltj, List.foldl_append]; rfl
     rw [← HN.out.1] at hst
     have hcm := HAB.out _ (.inr (List.getElem_mem hltj))
     generalize C[j] = x at y0 hst hcm
     have hx6 : I64 x := by have := HTF.out x hcm; unfold I64; omega
     have q1 : (Instr.lookup 72 (.map (some bm)) (.int .i64 x) false).run Tryz.prog wr = .ok (.int .i64 (lvl (kidsG c) sid 10 x)) wr := by
      have q := (HIM.out.ext HEJ.out).look keyedI Tryz.underlying72 (zeroI wr) (keyIn hx6)
      rw [lvF_there (HTH.out x hcm)] at q
      simpa using q
     have htb := lvl_bd (kidsG c) sid 10 x
     generalize lvl (kidsG c) sid 10 x = t at hst q1 htb
     have HST := hide hst
     have HT := hide htb
     have hxa : Ext wr (wr.alloc (.cells #[.int .i64 n, .int .i64 t] 3)) := (Below.refl _ _).alloc (Nat.le_refl _) _
     have HSU := hide (fsum_any [n, t] _ _ (ints_lit2 wr n t) (fun x hx => by
      rcases List.mem_cons.1 hx with rfl | hx
      ·exact HN.out.2
      ·rw [List.mem_singleton.1 hx]
       exact HT.out))
     have hst2 : sumL [n, t] = sumM n t := sumL_two HN.out.2
     rw [hst2] at HSU
     have HEA := hide (HEJ.out.trans hxa)
     clear hst htb hst2 hxa hcm hx6
     go_wp2_with fail
     refine HSU.out.mono ?_
     rintro e w6 ⟨rfl, hw6⟩
     subst hw6
     clear HSU q1 y0
     have HS2 := hide (show sumM n t = (C.take (j + 1)).foldl (fun n x => sumM n (lvl (kidsG c) sid 10 x)) gr ∧ 0 ≤ sumM n t ∧ sumM n t ≤ mostN from ⟨HST.out.symm, sumM_bd HN.out.2.1 HT.out.1⟩)
     generalize sumM n t = n2 at *
     go_wp2
     go_roundw
     case rel => exact ⟨j + 1, n2, hltj, by go_num, rfl, hide HS2.out, HEA.out⟩
     case measure => simp [intOf]; omega
    ·obtain rfl : j = C.length := by omega
     have hltjz : ¬ (C.length : Int) < C.length := by omega
     have hr := HN.out.1
     rw [List.take_length] at hr
     have hsn := HSN.out
     have hno := HNO.out
     rw [← hr] at hsn hno
     have hnu := HNU.out
     have qq := HQC4.out wr HEJ.out
     have q12 : wr.cell? ⟨b0, 12, none⟩ = some (.int .i64 c.low) := cell_box (HBX.out wr (HE1.out.trans (HE4.out.trans HEJ.out))) 12 _ rfl
     have q14 : wr.cell? ⟨b0, 14, none⟩ = some (.int .i64 c.wait) := cell_box (HBX.out wr (HE1.out.trans (HE4.out.trans HEJ.out))) 14 _ rfl
     obtain ⟨low, hlow⟩ : ∃ z, c.low = z := ⟨_, rfl⟩
     obtain ⟨wait, hwait⟩ : ∃ z, c.wait = z := ⟨_, rfl⟩
     rw [hlow] at q12
     rw [hwait] at q14
     rw [hlow, hwait] at hsn hno
     rw [hlow, hwait] at hnu
     have hwl : IntKind.i64.wrap (low + wait) = low + wait := by rw [IntKind.wrap_i64]; omega
     have HSN2 := hide hsn
     have HNO2 := hide hno
     have HZ := hide (HX.out.trans (HE1.out.trans (HE4.out.trans HEJ.out)))
     have HZ1 := hide (HE4.out.trans HEJ.out)
     clear hr hsn hno hnu hlow hwait HSN HNO
     by_cases h1 : n > sq
     ·have hf := HNO2.out (by rw [decide_eq_false (by omega)]; rfl)
      have HF := hide hf
      clear hf
      go_wp2
      go_ret
      exact ⟨by rw [HF.out]; rfl, HZ.out⟩
     ·by_cases h2 : n > low + wait
      ·have hf := HNO2.out (by rw [decide_eq_false (show ¬ n ≤ low + wait by omega), Bool.and_false])
       have HF := hide hf
       clear hf
       go_wp2
       go_ret
       exact ⟨by rw [HF.out]; rfl, HZ.out⟩
      ·have hs := HSN2.out
       rw [decide_eq_true (show n ≤ sq by omega), decide_eq_true (show n ≤ low + wait by omega)] at hs
       have HS2 := hide (show (c.S.take (k + 1)).all (roomS c p) = true from hs)
       clear hs
       go_wp2
       go_roundw
       case rel => exact ⟨k + 1, hlt, by go_num, hide HS2.out, HZ1.out⟩
       case measure => simp [intOf]; omega
  ·obtain rfl : k = c.S.length := by omega
   have hltz : ¬ (c.S.length : Int) < c.S.length := by omega
   have hf := HAL.out
   rw [List.take_length] at hf
   have HF := hide hf
   have HZ := hide (HX.out.trans (HE1.out.trans HE.out))
   clear hf
   go_wp2
   go_ret
   exact ⟨by rw [HF.out]; rfl, HZ.out⟩
end Go.Proofs.YtceaeiaoanhlnaaGreatDoor
