/- Merged texts (GkQ, GkR). -/
import Derived.Test.YtceaeiaoanhlnaaGreatDoorZgoe
import Derived.BigFrame
namespace Go.Proofs.YtceaeiaoanhlnaaGreatDoor
open Go.ChangeShapes Go.WideShapes Go.ChangeAt Go.RowKit Go.Lib Go.Shelf Go.Maps
theorem enters_pl (args : Array Value) (w : World) : (callFunc 74 args).run Tryz.prog w = .ok (.enter 74 args) w := enters_of Tryz.func74 (by kernel_rfl) rfl args w
theorem pred_pl (id : Int) (B : Nat) (w : World) (hB : B < w.heap.size) (hcell : w.cell? ⟨B, 0, none⟩ = some (.int .i64 id)) :
  PredBelow Tryz.prog 74 #[.pointer (some ⟨B, 0, none⟩)] (fun x => .agg (encE x).toArray) (fun e => e.svc == id) w := fun W x hb => by
 have hc : W.cell? ⟨B, 0, none⟩ = some (.int .i64 id) := (hb.cell (p := ⟨B, 0, none⟩) hB).trans hcell
 have hBW : B < W.heap.size := Nat.lt_of_lt_of_le hB hb.size
 have hne : B ≠ W.heap.size := by omega
 show Calls Tryz.prog 74 #[.agg #[.int .i64 x.id, .int .i64 x.svc, .int .i64 x.zone], .pointer (some ⟨B, 0, none⟩)] W _
 go_enter Tryz.func74, Tryz.ntmps74
 go_wp2
 all_goals (go_ret; exact ⟨by simp_all, hb.alloc hb.size _⟩)
set_option maxRecDepth 100000 in
set_option maxHeartbeats 16000000 in
theorem plain_any (c : ConfD) (p : ByteArray) (t : Int) (w : World) (h : GC w c) (hp : SzB p) :
  Calls Tryz.prog 40 #[.agg (encC c).toArray, .string p, .int .i64 t] w fun e w' => e = .returned (.bool (plainB c t p)) ∧ Ext w w' := by
 obtain ⟨cd, hcd1, hcd2⟩ := Tryz.confDesc
 obtain ⟨dd, hd1, hd2⟩ := Tryz.ruleDesc
 have hx : Ext w (w.alloc (.cells (encC c).toArray 30)) := (Below.refl _ _).alloc (Nat.le_refl _) _
 have hb1 := heap_alloc_new w (.cells (encC c).toArray 30)
 have hends := h.ok.2.2.1
 obtain ⟨hle, aE, cE, hvE⟩ := hends.shape
 have HEN := hide (show Ends (w.alloc (.cells (encC c).toArray 30)) (.slice aE c.E.length cE) c.E by rw [← hvE]; exact hends.ext hx)
 have HCE := hide (show (encC c)[1]? = some (.slice aE c.E.length cE) by rw [← hvE]; rfl)
 have hg := h.ext hx
 have HTA := hide (fun X (hX : Ext (w.alloc (.cells (encC c).toArray 30)) X) => targetsG_any c p X (hg.ext hX) hp)
 have HRU := hide (fun X (hX : Ext (w.alloc (.cells (encC c).toArray 30)) X) => rules33_any c p X (hg.ext hX).r (hg.ext hX).rk hp (hg.ext hX).mx (by have := chk_R h.chk; omega))
 have HROK := hide (fun r (hr : r ∈ onR c.R p) => hg.rk r (targ_mem hr))
 have HRL := hide (show (onR c.R p).length ≤ 20 from Nat.le_trans (onR_len c.R p) (chk_R h.chk))
 have HTL := hide (targ_len h.chk p)
 have hpl : plainB c t p = ((onR c.R p).all (easyB t) && ((targS c.R p).all (hasEnd c.E) && openB (onR c.R p))) := rfl
 rw [hpl]
 clear h hp hvE hle hends hpl
 generalize onR c.R p = R at *
 generalize targS c.R p = A at *
 generalize targC c.R p = C at *
 go_enter Tryz.func40, Tryz.ntmps40
 go_upto_region 2 with (fail)
 show Code.wp _ _ _ _ (w.alloc (.cells (encC c).toArray 30))
 generalize w.alloc (.cells (encC c).toArray 30) = W at hx hb1 hg HEN HTA HRU HROK ⊢
 have HX := hide hx
 obtain ⟨b0, hb0⟩ : ∃ b, w.heap.size = b := ⟨_, rfl⟩
 rw [hb0] at hb1 ⊢
 have HBX := hide (fun X (hX : Ext W X) => (hX.block b0 (Array.getElem?_eq_some_iff.1 hb1).1).trans hb1)
 clear hx hb0 hg
 refine wp_region_lit ?_
 refine wpList_load_mid rfl 30 (.tmp 3) rfl b0 0 rfl (encC c) cd (range_box hb1) hcd1 hcd2 Tryz.confSize ?_
 clear hb1
 refine wpList_plain rfl fun Kq hKq => ?_
 go_simp
 refine hKq _ _ ?_
 refine wpList_plain rfl fun Kq hKq => ?_
 go_simp
 refine (HRU.out W (Below.refl _ _)).mono ?_
 rintro e w1 ⟨v1, rfl, hrow, E1⟩
 refine hKq _ _ ?_
 clear hKq Kq HRU
 obtain ⟨xa, xc, rfl⟩ := owns_shape hrow
 have HRS := hide (Sl.of_own' encR_len hrow : Rules w1 (.slice xa R.length xc) R)
 have HRK := hide (fun r (hr : r ∈ R) => (HROK.out r hr).ext E1)
 have HE1 := hide E1
 clear hrow E1 HROK
 refine wpList_plain rfl fun Kq hKq => ?_
 go_simp
 refine hKq _ _ ?_
 refine wpList_plain rfl fun Kq hKq => ?_
 go_simp
 refine hKq _ _ ?_
 refine wpList_nil ?_
 go_wp2_with fail
 go_loopw [7, 18] (fun v7 v18 wr => ∃ (k : Nat) (o : Bool), k ≤ R.length ∧ v18 = .int .i64 k ∧ v7 = .bool o ∧ Hid (o = openB (R.take k) ∧ (R.take k).all (easyB t) = true) ∧ Ext w1 wr) (fun _ k _ => R.length - (intOf k).toNat)
 case atStart => exact ⟨0, false, Nat.zero_le _, rfl, rfl, hide ⟨rfl, rfl⟩, Below.refl _ _⟩
 case round =>
  obtain ⟨k, o, hk, rfl, rfl, ho, hext⟩ := hrel
  have HO := hide ho.out
  have HE := hide hext
  clear ho hext
  by_cases hlt : k < R.length
  ·have hltz : (k : Int) < R.length := by omega
   have hwk : IntKind.i64.wrap ((k : Int) + 1) = ((k + 1 : Nat) : Int) := by have := HRL.out; rw [IntKind.wrap_i64]; omega
   obtain ⟨rb, ro, rfl, hrb, hrg⟩ := rule_row (HRS.out.ext HE.out) k hlt
   have hok := HRK.out R[k] (List.getElem_mem hlt)
   have hone := encR_one' R[k] hok
   obtain ⟨_, ah, ch, hvh⟩ := hok.1.shape
   have hs1 : openB (R.take (k + 1)) = (openB (R.take k) || R[k].H.isEmpty) := by unfold openB; rw [take_snoc R k hlt, List.any_append]; simp
   have hs2 : (R.take (k + 1)).all (easyB t) = ((R.take k).all (easyB t) && easyB t R[k]) := by rw [take_snoc R k hlt, List.all_append]; simp
   rw [HO.out.2, Bool.true_and] at hs2
   rw [← HO.out.1] at hs1
   have hbad : easyB t R[k] = false → (R.all (easyB t) && (A.all (hasEnd c.E) && openB R)) = false := fun h => by
    rw [show R.all (easyB t) = false from List.all_eq_false.2 ⟨_, List.getElem_mem hlt, by rw [h]; decide⟩]
    rfl
   have hea : easyB t R[k] = (decide (R[k].ab ≤ 0) && decide (R[k].rate ≤ 0) && decide (t ≤ R[k].q0)) := rfl
   generalize R[k] = r at hrg hone hvh hs1 hs2 hbad hea
   clear hok
   go_upto_region 4 with (fail)
   refine wp_region_lit ?_
   refine wpList_plain rfl fun Kq hKq => ?_
   go_simp
   refine hKq _ _ ?_
   refine wpList_load_mid rfl 54 (.tmp 20) rfl rb (ro + k * 19) rfl (encR r) dd hrg hd1 hd2 Tryz.ruleSize ?_
   refine wpList_box rfl 54 rfl rfl (.tmp 9) (.tmp 21) rfl (encR r) _ allocR rfl rfl rfl Tryz.ruleSize hone fun w5 hb5 E5 => ?_
   refine wpList_nil ?_
   simp only [Act.put, List.setIfInBounds_toArray, List.set_cons_succ, List.set_cons_zero]
   obtain ⟨g, hg⟩ : ∃ g, wr.heap.size = g := ⟨_, rfl⟩
   rw [hg] at hb5 ⊢
   have d2 : w5.cell? ⟨g, 2, none⟩ = some (.slice ah r.H.length ch) := by rw [← hvh]; exact cell_box hb5 2 _ rfl
   have d5 : w5.cell? ⟨g, 5, none⟩ = some (.int .i64 r.ab) := cell_box hb5 5 _ rfl
   have d18 : w5.cell? ⟨g, 18, none⟩ = some (.int .i64 r.rate) := cell_box hb5 18 _ rfl
   have d11 : w5.cell? ⟨g, 11, none⟩ = some (.int .i64 r.q0) := cell_box hb5 11 _ rfl
   have HE5 := hide (HE.out.trans E5)
   have HZ := hide (HX.out.trans (HE1.out.trans (HE.out.trans E5)))
   clear hb5 E5 hrg hone hg hvh
   have hie : r.H.isEmpty = decide (r.H.length = 0) := by cases r.H <;> simp
   rw [hie] at hs1
   rw [hea] at hs2 hbad
   generalize r.H.length = hl at *
   generalize r.ab = ab at *
   generalize r.rate = rt at *
   generalize r.q0 = q0 at *
   clear hie hea
   have HS1 := hide hs1
   have HS2 := hide hs2
   have HBAD := hide hbad
   clear hs1 hs2 hbad
   cases o with
   | true =>
    by_cases h1 : ab > 0
    ·have hf := HBAD.out (by rw [decide_eq_false (show ¬ ab ≤ 0 by omega)]; rfl)
     have HF := hide hf
     clear hf
     go_wp2
     go_ret
     exact ⟨by rw [HF.out]; rfl, HZ.out⟩
    ·by_cases h2 : rt > 0
     ·have hf := HBAD.out (by rw [decide_eq_false (show ¬ rt ≤ 0 by omega), Bool.and_false]; rfl)
      have HF := hide hf
      clear hf
      go_wp2
      go_ret
      exact ⟨by rw [HF.out]; rfl, HZ.out⟩
     ·by_cases h3 : q0 < t
      ·have hf := HBAD.out (by rw [decide_eq_false (show ¬ t ≤ q0 by omega), Bool.and_false])
       have HF := hide hf
       clear hf
       go_wp2
       go_ret
       exact ⟨by rw [HF.out]; rfl, HZ.out⟩
      ·have hs2 := HS2.out
       rw [decide_eq_true (show ab ≤ 0 by omega), decide_eq_true (show rt ≤ 0 by omega), decide_eq_true (show t ≤ q0 by omega)] at hs2
       have hs1 := HS1.out
       rw [Bool.true_or] at hs1
       have HQ := hide (show true = openB (R.take (k + 1)) ∧ (R.take (k + 1)).all (easyB t) = true from ⟨hs1.symm, hs2⟩)
       clear hs1 hs2
       go_wp2
       go_roundw
       case rel => exact ⟨k + 1, true, hlt, by go_num, by first | rfl | simp, hide HQ.out, HE5.out⟩
       case measure => simp [intOf]; omega
   | false =>
    by_cases h0 : hl = 0
    ·subst h0
     by_cases h1 : ab > 0
     ·have hf := HBAD.out (by rw [decide_eq_false (show ¬ ab ≤ 0 by omega)]; rfl)
      have HF := hide hf
      clear hf
      go_wp2
      go_ret
      exact ⟨by rw [HF.out]; rfl, HZ.out⟩
     ·by_cases h2 : rt > 0
      ·have hf := HBAD.out (by rw [decide_eq_false (show ¬ rt ≤ 0 by omega), Bool.and_false]; rfl)
       have HF := hide hf
       clear hf
       go_wp2
       go_ret
       exact ⟨by rw [HF.out]; rfl, HZ.out⟩
      ·by_cases h3 : q0 < t
       ·have hf := HBAD.out (by rw [decide_eq_false (show ¬ t ≤ q0 by omega), Bool.and_false])
        have HF := hide hf
        clear hf
        go_wp2
        go_ret
        exact ⟨by rw [HF.out]; rfl, HZ.out⟩
       ·have hs2 := HS2.out
        rw [decide_eq_true (show ab ≤ 0 by omega), decide_eq_true (show rt ≤ 0 by omega), decide_eq_true (show t ≤ q0 by omega)] at hs2
        have hs1 := HS1.out
        rw [decide_eq_true rfl, Bool.or_true] at hs1
        have HQ := hide (show true = openB (R.take (k + 1)) ∧ (R.take (k + 1)).all (easyB t) = true from ⟨hs1.symm, hs2⟩)
        clear hs1 hs2
        go_wp2
        go_roundw
        case rel => exact ⟨k + 1, true, hlt, by go_num, by first | rfl | simp, hide HQ.out, HE5.out⟩
        case measure => simp [intOf]; omega
    ·have h0z : ((hl : Int) == 0) = false := by simp [h0]
     by_cases h1 : ab > 0
     ·have hf := HBAD.out (by rw [decide_eq_false (show ¬ ab ≤ 0 by omega)]; rfl)
      have HF := hide hf
      clear hf
      go_wp2
      go_ret
      exact ⟨by rw [HF.out]; rfl, HZ.out⟩
     ·by_cases h2 : rt > 0
      ·have hf := HBAD.out (by rw [decide_eq_false (show ¬ rt ≤ 0 by omega), Bool.and_false]; rfl)
       have HF := hide hf
       clear hf
       go_wp2
       go_ret
       exact ⟨by rw [HF.out]; rfl, HZ.out⟩
      ·by_cases h3 : q0 < t
       ·have hf := HBAD.out (by rw [decide_eq_false (show ¬ t ≤ q0 by omega), Bool.and_false])
        have HF := hide hf
        clear hf
        go_wp2
        go_ret
        exact ⟨by rw [HF.out]; rfl, HZ.out⟩
       ·have hs2 := HS2.out
        rw [decide_eq_true (show ab ≤ 0 by omega), decide_eq_true (show rt ≤ 0 by omega), decide_eq_true (show t ≤ q0 by omega)] at hs2
        have hs1 := HS1.out
        rw [decide_eq_false h0, Bool.or_false] at hs1
        have HQ := hide (show false = openB (R.take (k + 1)) ∧ (R.take (k + 1)).all (easyB t) = true from ⟨hs1.symm, hs2⟩)
        clear hs1 hs2
        go_wp2
        go_roundw
        case rel => exact ⟨k + 1, false, hlt, by go_num, by first | rfl | simp, hide HQ.out, HE5.out⟩
        case measure => simp [intOf]; omega
  ·obtain rfl : k = R.length := by omega
   have hltz : ¬ (R.length : Int) < R.length := by omega
   have ho := HO.out.1
   have hal := HO.out.2
   rw [List.take_length] at ho hal
   have HO2 := hide ho
   have HAL := hide hal
   have HW := hide (HE1.out.trans HE.out)
   clear ho hal HO hlt
   go_upto_region 9 with (fail)
   refine wp_region_lit ?_
   refine wpList_load_mid rfl 30 (.tmp 3) rfl b0 0 rfl (encC c) cd (range_box (HBX.out wr HW.out)) hcd1 hcd2 Tryz.confSize ?_
   refine wpList_plain rfl fun Kq hKq => ?_
   go_simp
   refine hKq _ _ ?_
   refine wpList_plain rfl fun Kq hKq => ?_
   go_simp
   refine (HTA.out wr HW.out).mono ?_
   rintro e w2 ⟨v1, v2, rfl, hts⟩
   refine hKq _ _ ?_
   clear hKq Kq HTA
   obtain ⟨a4, c4, rfl⟩ := owns_shape hts.s
   obtain ⟨a5, c5, rfl⟩ := owns_shape hts.c
   have HIA := hide (Sl.of_own' (enc := encI) (fun _ => rfl) hts.s : Ints w2 (.slice a4 A.length c4) A)
   have HE2 := hide (HW.out.trans hts.ext)
   clear hts
   refine wpList_plain rfl fun Kq hKq => ?_
   go_simp
   refine hKq _ _ ?_
   refine wpList_plain rfl fun Kq hKq => ?_
   go_simp
   refine hKq _ _ ?_
   refine wpList_plain rfl fun Kq hKq => ?_
   go_simp
   refine hKq _ _ ?_
   refine wpList_plain rfl fun Kq hKq => ?_
   go_simp
   refine hKq _ _ ?_
   refine wpList_plain rfl fun Kq hKq => ?_
   go_simp
   refine hKq _ _ ?_
   refine wpList_nil ?_
   go_wp2_with fail
   go_loopw [55] (fun v55 wr => ∃ j : Nat, j ≤ A.length ∧ v55 = .int .i64 j ∧ Hid ((A.take j).all (hasEnd c.E) = true) ∧ Ext w2 wr) (fun j _ => A.length - (intOf j).toNat)
   case atStart => exact ⟨0, Nat.zero_le _, rfl, hide rfl, Below.refl _ _⟩
   case round =>
    obtain ⟨j, hj, rfl, hha, hext⟩ := hrel
    have HHA := hide hha.out
    have HEJ := hide hext
    clear hha hext
    by_cases hltj : j < A.length
    ·have hltjz : (j : Int) < A.length := by omega
     have hwj : IntKind.i64.wrap ((j : Int) + 1) = ((j + 1 : Nat) : Int) := by have := HTL.out; rw [IntKind.wrap_i64]; omega
     obtain ⟨pb, po, rfl, hpb, y0⟩ := ints_row (HIA.out.ext HEJ.out) j hltj
     have hsn : (A.take (j + 1)).all (hasEnd c.E) = ((A.take j).all (hasEnd c.E) && hasEnd c.E A[j]) := by rw [take_snoc A j hltj, List.all_append]; simp
     rw [HHA.out, Bool.true_and] at hsn
     have hno : hasEnd c.E A[j] = false → A.all (hasEnd c.E) = false := fun h => List.all_eq_false.2 ⟨_, List.getElem_mem hltj, by rw [h]; decide⟩
     generalize A[j] = x at y0 hsn hno
     have hxa : Ext wr (wr.alloc (.cells #[.int .i64 x] 3)) := (Below.refl _ _).alloc (Nat.le_refl _) _
     have hbx := heap_alloc_new wr (.cells #[.int .i64 x] 3)
     go_upto_region 13 with (fail)
     show Code.wp _ _ _ _ (wr.alloc (.cells #[.int .i64 x] 3))
     generalize wr.alloc (.cells #[.int .i64 x] 3) = w3 at hxa hbx ⊢
     obtain ⟨g, hg⟩ : ∃ g, wr.heap.size = g := ⟨_, rfl⟩
     rw [hg] at hbx ⊢
     have HE3 := hide (HEJ.out.trans hxa)
     have hW3 := HE2.out.trans HE3.out
     have q1 : w3.cell? ⟨b0, 1, none⟩ = some (.slice aE c.E.length cE) := cell_box (HBX.out w3 hW3) 1 _ HCE.out
     have hcx : w3.cell? ⟨g, 0, none⟩ = some (.int .i64 x) := by simp [World.cell?, hbx]
     have hcon := conE_any c.E (fun e => e.svc == x) 74 #[.pointer (some ⟨g, 0, none⟩)] enters_pl (.slice aE c.E.length cE) w3 (HEN.out.ext hW3) (pred_pl x g w3 (World.block_lt_of_cell? w3 _ hcx) hcx)
     have HW3 := hide hW3
     obtain ⟨hb, hhb⟩ : ∃ b, hasEnd c.E x = b := ⟨_, rfl⟩
     rw [show (c.E.any fun e => e.svc == x) = hb from hhb] at hcon
     rw [hhb] at hsn hno
     have HCON := hide hcon
     have HSN := hide hsn
     have HNO := hide hno
     clear hxa hbx hg hW3 hcx hcon hhb hsn hno y0
     go_wp2_with fail
     refine HCON.out.mono ?_
     rintro e w4 ⟨rfl, E4⟩
     have HE4 := hide (HE3.out.trans E4)
     have HZ := hide (HX.out.trans (HW3.out.trans E4))
     clear E4 q1 HCON
     cases hb with
     | false =>
      have hf := HNO.out rfl
      have HF := hide hf
      clear hf
      go_wp2
      go_ret
      exact ⟨by rw [HF.out, HAL.out]; rfl, HZ.out⟩
     | true =>
      go_wp2
      go_roundw
      case rel => exact ⟨j + 1, hltj, by go_num, hide HSN.out, HE4.out⟩
      case measure => simp [intOf]; omega
    ·obtain rfl : j = A.length := by omega
     have hltjz : ¬ (A.length : Int) < A.length := by omega
     have hf := HHA.out
     rw [List.take_length] at hf
     have HF := hide hf
     have HZ := hide (HX.out.trans (HE2.out.trans HEJ.out))
     clear hf
     go_wp2
     go_ret
     exact ⟨by rw [HAL.out, HF.out, ← HO2.out]; rfl, HZ.out⟩
end Go.Proofs.YtceaeiaoanhlnaaGreatDoor
namespace Go.Proofs.YtceaeiaoanhlnaaGreatDoor
open Go.ChangeShapes Go.WideShapes Go.ChangeAt Go.RowKit Go.Lib Go.Shelf Go.Maps
theorem strs_new1 (w : World) (p : ByteArray) : Strs (w.alloc (.cells #[.string p] 9)) (.slice (some ⟨w.heap.size, 0, none⟩) 1 1) [p] := by
 have h := World.ownsRow_lit (base := 0) (e := 9) (size := 1) w #[.string p] 1 (Nat.zero_le _) (by unfold maxLen; omega) rfl
 exact Sl.of_own' (enc := encS) (xs := [p]) (fun _ => rfl) (base := 0) (e := 9) h
/-- where nothing on the way is within itself there is a time -/
theorem deep_alone {c : ConfD} (h : chkC c = 0) {p : ByteArray} (hc : circleB c (wayC c [p]) = false) : Deep c (c.S.length + 1) p := by
 refine deep_of c p (fun a ha => ?_) (fun a ha hr => ?_)
 ·obtain ⟨q, -, hq⟩ := ha
  obtain ⟨h1, h2⟩ := findS_there (lead_there (chk_lead h) hq)
  exact List.mem_map.2 ⟨_, h1, h2⟩
 ·obtain ⟨q, hq, hb⟩ := ha
  have hw := (wayC_mem c [p] q).2 ⟨p, List.mem_singleton.2 rfl, hq⟩
  have h1 := List.any_eq_false.1 hc q hw
  exact h1 (List.any_eq_true.2 ⟨a, hb, (within_reach c a).2 hr⟩)
theorem way_sz {w : World} {c : ConfD} (h : GC w c) {p : ByteArray} (hp : SzB p) : ∀ q ∈ wayC c [p], SzB q := fun q hq => by
 obtain ⟨p0, hp0, hr⟩ := (wayC_mem c _ q).1 hq
 cases hr with
 | refl => rw [List.mem_singleton.1 hp0]; exact hp
 | step _ h3 => exact kids_sz h q (nbP_all c _ _ h3)
set_option maxRecDepth 100000 in
set_option maxHeartbeats 16000000 in
/-- how many ticks a request of a path takes, if it is alone -/
theorem alone_any (c : ConfD) (p : ByteArray) (w : World) (h : GC w c) (hp : SzB p) :
  Calls Tryz.prog 20 #[.agg (encC c).toArray, .string p] w fun e w' => e = .returned (.tuple #[.int .i64 (aloneC c p).1, .bool (aloneC c p).2]) ∧ Ext w w' := by
 obtain ⟨cd, hcd1, hcd2⟩ := Tryz.confDesc
 have hx : Ext w (w.alloc (.cells (encC c).toArray 30)) := (Below.refl _ _).alloc (Nat.le_refl _) _
 have hb1 := heap_alloc_new w (.cells (encC c).toArray 30)
 have hg := h.ext hx
 have HP := hide hp
 have HWS := hide (way_sz h hp)
 have HWL := hide (show (wayC c [p]).length ≤ 100 by have h1 := wayC_len c [p]; rw [List.length_append] at h1; have h2 := allK_len h.chk; simp at h1; omega)
 have HDA := hide (fun hc => deep_alone (p := p) h.chk hc)
 obtain ⟨cb, hcb⟩ : ∃ b, circleB c (wayC c [p]) = b := ⟨_, rfl⟩
 obtain ⟨rb, hrb⟩ : ∃ b, roomB c p = b := ⟨_, rfl⟩
 obtain ⟨pb, hpb⟩ : ∃ b, (wayC c [p]).all (plainB c (timeC c p)) = b := ⟨_, rfl⟩
 have hal : aloneC c p = if cb = true then (0, false) else if c.life < timeC c p then (0, false) else if rb = false then (0, false) else if pb = true then (timeC c p, true) else (0, false) := by unfold aloneC; rw [hcb, hrb, hpb]
 rw [hal]
 simp only [hcb] at HDA
 have HCB := hide hcb
 have HRB := hide hrb
 have HPB := hide hpb
 clear h hp hcb hrb hpb hal
 obtain ⟨life, hlf⟩ : ∃ z, c.life = z := ⟨_, rfl⟩
 have HLF := hide hlf
 rw [hlf]
 clear hlf
 have HRM := hide (fun X (hX : Ext (w.alloc (.cells (encC c).toArray 30)) X) => room_any c p X (hg.ext hX) HP.out)
 have HTM := hide (fun X (hX : Ext (w.alloc (.cells (encC c).toArray 30)) X) hd => timeof_any c p X (hg.ext hX) HP.out hd)
 have HG := hide (fun X (hX : Ext (w.alloc (.cells (encC c).toArray 30)) X) => hg.ext hX)
 simp only [HRB.out] at HRM
 generalize timeC c p = tm at *
 generalize hway : wayC c [p] = way at HWS HWL HCB HPB
 have HWY := hide hway
 clear hg hway
 go_enter Tryz.func20, Tryz.ntmps20
 go_upto_region 1 with (fail)
 show Code.wp _ _ _ _ (w.alloc (.cells (encC c).toArray 30))
 generalize w.alloc (.cells (encC c).toArray 30) = W at hx hb1 HRM HTM HG ⊢
 have HX := hide hx
 obtain ⟨b0, hb0⟩ : ∃ b, w.heap.size = b := ⟨_, rfl⟩
 rw [hb0] at hb1 ⊢
 have HBX := hide (fun X (hX : Ext W X) => (hX.block b0 (Array.getElem?_eq_some_iff.1 hb1).1).trans hb1)
 clear hx hb0
 refine wp_region_lit ?_
 refine wpList_load_mid rfl 30 (.tmp 2) rfl b0 0 rfl (encC c) cd (range_box hb1) hcd1 hcd2 Tryz.confSize ?_
 clear hb1
 refine wpList_plain rfl fun Kq hKq => ?_
 go_simp
 refine hKq _ _ ?_
 refine wpList_plain rfl fun Kq hKq => ?_
 go_simp
 refine hKq _ _ ?_
 have hxa : Ext W (W.alloc (.cells #[.string p] 9)) := (Below.refl _ _).alloc (Nat.le_refl _) _
 have HOW := hide (onway_any c [p] _ _ (HG.out _ hxa) (strs_new1 W p) (fun q hq => by rw [List.mem_singleton.1 hq]; exact HP.out) (by simp))
 rw [HWY.out] at HOW
 refine wpList_plain rfl fun Kq hKq => ?_
 go_simp
 refine HOW.out.mono ?_
 rintro e w1 ⟨v1, rfl, hrow, E1⟩
 refine hKq _ _ ?_
 clear hKq Kq HOW
 obtain ⟨wa, wc, rfl⟩ := owns_shape hrow
 have HST := hide (Sl.of_own' (enc := encS) (fun _ => rfl) hrow : Strs w1 (.slice wa way.length wc) way)
 have HE1 := hide (hxa.trans E1)
 clear hrow hxa E1
 refine wpList_plain rfl fun Kq hKq => ?_
 go_simp
 refine hKq _ _ ?_
 refine wpList_nil ?_
 have HCI := hide (circle_any c way _ w1 (HG.out w1 HE1.out) HST.out HWS.out (by have := HWL.out; omega))
 rw [HCB.out] at HCI
 go_wp2_with (first | (refine BigFrame.wpList_want (by rfl) fun K hK => ?_; refine wp_load_mid 30 (.tmp 2) rfl b0 0 rfl (encC c) cd (range_box (HBX.out _ HE1.out)) hcd1 hcd2 Tryz.confSize ?_; refine hK _ _ ?_; simp only [Act.put]))
 refine HCI.out.mono ?_
 rintro e w2 ⟨rfl, E2⟩
 have HE2 := hide (HE1.out.trans E2)
 have HS2 := hide (HST.out.ext E2)
 clear E2 HCI HST
 cases cb with
 | true =>
  have HZ := hide (HX.out.trans HE2.out)
  go_wp2
  go_ret2
  exact ⟨rfl, HZ.out⟩
 | false =>
  have HTI := hide (HTM.out w2 HE2.out (HDA.out rfl))
  go_wp2_with (first | (refine BigFrame.wpList_want (by rfl) fun K hK => ?_; refine wp_load_mid 30 (.tmp 2) rfl b0 0 rfl (encC c) cd (range_box (HBX.out _ HE2.out)) hcd1 hcd2 Tryz.confSize ?_; refine hK _ _ ?_; simp only [Act.put]))
  refine HTI.out.mono ?_
  rintro e w3 ⟨rfl, E3⟩
  have HE3 := hide (HE2.out.trans E3)
  have HS3 := hide (HS2.out.ext E3)
  clear E3 HTI HS2 HDA HTM
  have q16 : w3.cell? ⟨b0, 16, none⟩ = some (.int .i64 life) := by rw [← HLF.out]; exact cell_box (HBX.out w3 HE3.out) 16 _ rfl
  by_cases hgt : life < tm
  ·have HZ := hide (HX.out.trans HE3.out)
   have hgt2 : tm > life := hgt
   have hgd : decide (life < tm) = true := decide_eq_true hgt
   go_wp2
   go_ret2
   exact ⟨by first | rfl | (simp [hgt]; done) | (simp [hgt]; rfl) | (rw [if_neg (by decide), if_pos hgt]; rfl), HZ.out⟩
  ·have hgt2 : ¬ tm > life := hgt
   have hgd : decide (life < tm) = false := decide_eq_false hgt
   have HRO := hide (HRM.out w3 HE3.out)
   go_wp2_with (first | (refine BigFrame.wpList_want (by rfl) fun K hK => ?_; refine wp_load_mid 30 (.tmp 2) rfl b0 0 rfl (encC c) cd (range_box (HBX.out _ HE3.out)) hcd1 hcd2 Tryz.confSize ?_; refine hK _ _ ?_; simp only [Act.put]))
   refine HRO.out.mono ?_
   rintro e w4 ⟨rfl, E4⟩
   have HE4 := hide (HE3.out.trans E4)
   have HS4 := hide (HS3.out.ext E4)
   clear E4 HRO HS3 q16
   cases rb with
   | false =>
    have HZ := hide (HX.out.trans HE4.out)
    go_wp2
    go_ret2
    exact ⟨by first | rfl | (simp [hgt]; done) | (simp [hgt]; rfl) | (rw [if_neg (by decide), if_neg hgt, if_pos rfl]; rfl), HZ.out⟩
   | true =>
    go_wp2_with fail
    go_loopw [32] (fun v32 wr => ∃ k : Nat, k ≤ way.length ∧ v32 = .int .i64 k ∧ Hid ((way.take k).all (plainB c tm) = true) ∧ Ext w4 wr) (fun k _ => way.length - (intOf k).toNat)
    case atStart => exact ⟨0, Nat.zero_le _, rfl, hide rfl, Below.refl _ _⟩
    case round =>
     obtain ⟨k, hk, rfl, ha, hext⟩ := hrel
     have HA := hide ha.out
     have HE := hide (HE4.out.trans hext)
     have HE5 := hide hext
     clear ha hext
     by_cases hlt : k < way.length
     ·have hltz : (k : Int) < way.length := by omega
      have hwk : IntKind.i64.wrap ((k : Int) + 1) = ((k + 1 : Nat) : Int) := by have := HWL.out; rw [IntKind.wrap_i64]; omega
      obtain ⟨sb, so, rfl, hsb, z0⟩ := strs_row (HS4.out.ext HE5.out) k hlt
      have hsn : (way.take (k + 1)).all (plainB c tm) = ((way.take k).all (plainB c tm) && plainB c tm way[k]) := by rw [take_snoc way k hlt, List.all_append]; simp
      rw [HA.out, Bool.true_and] at hsn
      have hno : plainB c tm way[k] = false → way.all (plainB c tm) = false := fun h => List.all_eq_false.2 ⟨_, List.getElem_mem hlt, by rw [h]; decide⟩
      have hpl := plain_any c way[k] tm wr (HG.out wr HE.out) (HWS.out _ (List.getElem_mem hlt))
      generalize way[k] = q at z0 hsn hno hpl
      generalize plainB c tm q = t at hsn hno hpl
      have HSN := hide hsn
      have HNO := hide hno
      have HPL := hide hpl
      clear hsn hno hpl
      go_wp2_with (first | (refine BigFrame.wpList_want (by rfl) fun K hK => ?_; refine wp_load_mid 30 (.tmp 2) rfl b0 0 rfl (encC c) cd (range_box (HBX.out _ HE.out)) hcd1 hcd2 Tryz.confSize ?_; refine hK _ _ ?_; simp only [Act.put]))
      refine HPL.out.mono ?_
      rintro e w6 ⟨rfl, E6⟩
      have HE6 := hide (HE5.out.trans E6)
      have HZ := hide (HX.out.trans (HE.out.trans E6))
      clear E6 HPL z0
      cases t with
      | false =>
       have hf := HNO.out rfl
       rw [HPB.out] at hf
       subst hf
       go_wp2
       go_ret2
       exact ⟨by first | rfl | (simp [hgt]; done) | (simp [hgt]; rfl) | (rw [if_neg (by decide), if_neg hgt, if_neg (by decide), if_neg (by decide)]; rfl), HZ.out⟩
      | true =>
       go_wp2
       go_roundw
       case rel => exact ⟨k + 1, hlt, by go_num, hide HSN.out, HE6.out⟩
       case measure => simp [intOf]; omega
     ·obtain rfl : k = way.length := by omega
      have hltz : ¬ (way.length : Int) < way.length := by omega
      have hf := HA.out
      rw [List.take_length, HPB.out] at hf
      subst hf
      have HZ := hide (HX.out.trans HE.out)
      go_wp2
      go_ret2
      exact ⟨by first | rfl | (simp [hgt]; done) | (simp [hgt]; rfl) | (rw [if_neg (by decide), if_neg hgt, if_neg (by decide), if_pos rfl]; rfl), HZ.out⟩
end Go.Proofs.YtceaeiaoanhlnaaGreatDoor
