/- SnapOwns: its walk (printed by wip/gen_swn.py). -/
import Derived.Test.YtofjcokclegkhaaGreatDoorSnN
import Derived.Test.YtofjcokclegkhaaGreatDoorZrw
import Derived.BigFrame
namespace Go.Proofs.YtofjcokclegkhaaGreatDoor
open Go.ChangeShapes Go.WideShapes Go.ChangeAt Go.RowKit Go.Lib Go.Shelf Go.Maps
set_option maxRecDepth 100000 in
theorem frame221 (x : Nat → Value) : frameOf 221 x = #[x 0, x 1, x 2, x 3, x 4, x 5, x 6, x 7, x 8, x 9, x 10, x 11, x 12, x 13, x 14, x 15, x 16, x 17, x 18, x 19, x 20, x 21, x 22, x 23, x 24, x 25, x 26, x 27, x 28, x 29, x 30, x 31, x 32, x 33, x 34, x 35, x 36, x 37, x 38, x 39, x 40, x 41, x 42, x 43, x 44, x 45, x 46, x 47, x 48, x 49, x 50, x 51, x 52, x 53, x 54, x 55, x 56, x 57, x 58, x 59, x 60, x 61, x 62, x 63, x 64, x 65, x 66, x 67, x 68, x 69, x 70, x 71, x 72, x 73, x 74, x 75, x 76, x 77, x 78, x 79, x 80, x 81, x 82, x 83, x 84, x 85, x 86, x 87, x 88, x 89, x 90, x 91, x 92, x 93, x 94, x 95, x 96, x 97, x 98, x 99, x 100, x 101, x 102, x 103, x 104, x 105, x 106, x 107, x 108, x 109, x 110, x 111, x 112, x 113, x 114, x 115, x 116, x 117, x 118, x 119, x 120, x 121, x 122, x 123, x 124, x 125, x 126, x 127, x 128, x 129, x 130, x 131, x 132, x 133, x 134, x 135, x 136, x 137, x 138, x 139, x 140, x 141, x 142, x 143, x 144, x 145, x 146, x 147, x 148, x 149, x 150, x 151, x 152, x 153, x 154, x 155, x 156, x 157, x 158, x 159, x 160, x 161, x 162, x 163, x 164, x 165, x 166, x 167, x 168, x 169, x 170, x 171, x 172, x 173, x 174, x 175, x 176, x 177, x 178, x 179, x 180, x 181, x 182, x 183, x 184, x 185, x 186, x 187, x 188, x 189, x 190, x 191, x 192, x 193, x 194, x 195, x 196, x 197, x 198, x 199, x 200, x 201, x 202, x 203, x 204, x 205, x 206, x 207, x 208, x 209, x 210, x 211, x 212, x 213, x 214, x 215, x 216, x 217, x 218, x 219, x 220] := rfl
set_option maxRecDepth 100000 in
set_option maxHeartbeats 16000000 in
theorem owns_walk (L : List Int) (v : Value) (w : World) (hs : Ints w v L) (hL : ∀ x ∈ L, I64 x) (hm : MaxV w) :
  Calls Tryz.prog 3 #[v] w fun e w' => e = .returned (.bool true) ∧ Ext w w' := by
 obtain ⟨cd, hcd1, hcd2⟩ := Tryz.confDesc
 obtain ⟨dv, hdv1, hdv2⟩ := Tryz.svcDesc
 obtain ⟨_, a, cap, rfl⟩ := hs.shape
 have HM := hide hm
 have HS := hide hs
 have HL := hide hL
 clear hs hL hm
 go_enter Tryz.func3, Tryz.ntmps3
 go_wp2_with fail
 refine (conf_any L _ w HS.out HL.out).mono ?_
 rintro e W1 ⟨c, rfl, hc, ho, E1⟩
 have HCC := hide hc
 clear hc
 have hbz := heap_alloc_new W1 (.cells #[.slice none 0 0, .slice none 0 0, .slice none 0 0, .slice none 0 0, .int .i64 0, .int .i64 0, .int .i64 0, .int .i64 0, .int .i64 0, .int .i64 0, .int .i64 0, .int .i64 0, .int .i64 0, .int .i64 0, .int .i64 0, .int .i64 0, .int .i64 0, .int .i64 0, .int .i64 0, .int .i64 0] 30)
 have hxz : Ext W1 (W1.alloc (.cells #[.slice none 0 0, .slice none 0 0, .slice none 0 0, .slice none 0 0, .int .i64 0, .int .i64 0, .int .i64 0, .int .i64 0, .int .i64 0, .int .i64 0, .int .i64 0, .int .i64 0, .int .i64 0, .int .i64 0, .int .i64 0, .int .i64 0, .int .i64 0, .int .i64 0, .int .i64 0, .int .i64 0] 30)) := (Below.refl _ _).alloc (Nat.le_refl _) _
 have hth : (W1.alloc (.cells #[.slice none 0 0, .slice none 0 0, .slice none 0 0, .slice none 0 0, .int .i64 0, .int .i64 0, .int .i64 0, .int .i64 0, .int .i64 0, .int .i64 0, .int .i64 0, .int .i64 0, .int .i64 0, .int .i64 0, .int .i64 0, .int .i64 0, .int .i64 0, .int .i64 0, .int .i64 0, .int .i64 0] 30)).there W1.heap.size 0 20 := fun q hq => by
  rw [Nat.zero_add]
  refine ⟨?_, by simp only [World.frozen?]; rw [hbz]; simp⟩
  simp only [World.cell?, hbz]
  simp [hq]
 go_upto_region 2 with (refine wpList_store_mid rfl 30 (.tmp 3) (.tmp 20) rfl W1.heap.size 0 (encC c).toArray rfl rfl hth Tryz.confSize (all_oneCell_toArray (encC_one' ho)) ?_)
 generalize W1.alloc (.cells #[.slice none 0 0, .slice none 0 0, .slice none 0 0, .slice none 0 0, .int .i64 0, .int .i64 0, .int .i64 0, .int .i64 0, .int .i64 0, .int .i64 0, .int .i64 0, .int .i64 0, .int .i64 0, .int .i64 0, .int .i64 0, .int .i64 0, .int .i64 0, .int .i64 0, .int .i64 0, .int .i64 0] 30) = Wz at hbz hxz hth ⊢
 obtain ⟨b3, hbe⟩ : ∃ b, W1.heap.size = b := ⟨_, rfl⟩
 rw [hbe] at hbz hth ⊢
 have hbb3 : w.heap.size ≤ b3 := by have := (E1).size; omega
 have hrs := World.rangeAt_setCells_same Wz b3 0 (encC c) hth
 obtain ⟨cs, hcs1, hcs2⟩ := setCells_block b3 30 (0, 0) (encC c) 0 Wz _ hbz
 have hk5 := keeps_setCells b3 (encC c) 0 Wz
 show Code.wp _ _ _ _ (Wz.setCells b3 0 (encC c))
 generalize Wz.setCells b3 0 (encC c) = W2 at hrs hk5 hcs1 ⊢
 have HB2 := hide (show BoxC W2 b3 c from BoxC.of_range hcs1 (by rw [hcs2]; rfl) hrs)
 have HX2 := hide (Keeps.ext ((E1).trans hxz) hk5 (fun g hg => by omega))
 have HO2 := hide (((ho).ext hxz).keepT hk5 (OfT.one hbz) (by decide) (by decide) (by decide) (by decide) (by decide) (by decide) (by decide))
 have hGb3 : W1.heap.size ≤ b3 := by omega
 have hEb3 : Ext W1 W2 := ((Keeps.of_ext hxz).trans hk5 : Keeps (fun g => g = b3) W1 W2).below (Nat.le_refl _) (fun g hg => by omega)
 clear hrs hk5 hcs1 hcs2 hbz hxz hth
 have hlt := HB2.out.lt
 have HB3 := hide hlt
 have g0 := good_conf HCC.out
 clear ho E1 hEb3 hlt
 refine wp_region_lit ?_
 refine wpList_load_mid rfl 30 (.tmp 3) rfl b3 0 rfl (encC c) cd (HB2.out).range hcd1 hcd2 Tryz.confSize ?_
 simp only [Act.put]
 go_wp2_with fail
 refine (mnew_any 3 w.heap.size c W2 (HM.out.ext HX2.out) (HX2.out).size (HO2.out) (g0.1) (Nat.le_trans g0.2.2 (by decide))).mono ?_
 rintro e W3 ⟨E6, ⟨hne, -⟩ | ⟨-, bb, rfl, hsa⟩⟩
 ·exact absurd (g0.2.1) hne
 have E23 := hide E6
 have SA := hide hsa
 clear E6 hsa
 go_wp2_with fail
 refine (conf_any L _ W3 (HS.out.ext (HX2.out.trans E23.out)) HL.out).mono ?_
 rintro e W4 ⟨cw, rfl, hcw, ho, E34⟩
 have HCW := hide hcw
 have hoe := hide ho
 clear hcw HS HL
 have hbz := heap_alloc_new W4 (.cells #[.slice none 0 0, .slice none 0 0, .slice none 0 0, .slice none 0 0, .int .i64 0, .int .i64 0, .int .i64 0, .int .i64 0, .int .i64 0, .int .i64 0, .int .i64 0, .int .i64 0, .int .i64 0, .int .i64 0, .int .i64 0, .int .i64 0, .int .i64 0, .int .i64 0, .int .i64 0, .int .i64 0] 30)
 have hxz : Ext W4 (W4.alloc (.cells #[.slice none 0 0, .slice none 0 0, .slice none 0 0, .slice none 0 0, .int .i64 0, .int .i64 0, .int .i64 0, .int .i64 0, .int .i64 0, .int .i64 0, .int .i64 0, .int .i64 0, .int .i64 0, .int .i64 0, .int .i64 0, .int .i64 0, .int .i64 0, .int .i64 0, .int .i64 0, .int .i64 0] 30)) := (Below.refl _ _).alloc (Nat.le_refl _) _
 have hth : (W4.alloc (.cells #[.slice none 0 0, .slice none 0 0, .slice none 0 0, .slice none 0 0, .int .i64 0, .int .i64 0, .int .i64 0, .int .i64 0, .int .i64 0, .int .i64 0, .int .i64 0, .int .i64 0, .int .i64 0, .int .i64 0, .int .i64 0, .int .i64 0, .int .i64 0, .int .i64 0, .int .i64 0, .int .i64 0] 30)).there W4.heap.size 0 20 := fun q hq => by
  rw [Nat.zero_add]
  refine ⟨?_, by simp only [World.frozen?]; rw [hbz]; simp⟩
  simp only [World.cell?, hbz]
  simp [hq]
 go_upto_region 6 with (refine wpList_store_mid rfl 30 (.tmp 6) (.tmp 33) rfl W4.heap.size 0 (encC cw).toArray rfl rfl hth Tryz.confSize (all_oneCell_toArray (encC_one' hoe.out)) ?_)
 generalize W4.alloc (.cells #[.slice none 0 0, .slice none 0 0, .slice none 0 0, .slice none 0 0, .int .i64 0, .int .i64 0, .int .i64 0, .int .i64 0, .int .i64 0, .int .i64 0, .int .i64 0, .int .i64 0, .int .i64 0, .int .i64 0, .int .i64 0, .int .i64 0, .int .i64 0, .int .i64 0, .int .i64 0, .int .i64 0] 30) = Wz at hbz hxz hth ⊢
 obtain ⟨b6, hbe⟩ : ∃ b, W4.heap.size = b := ⟨_, rfl⟩
 rw [hbe] at hbz hth ⊢
 have hbb6 : w.heap.size ≤ b6 := by have := (((HX2.out.trans E23.out).trans E34)).size; omega
 have hrs := World.rangeAt_setCells_same Wz b6 0 (encC cw) hth
 obtain ⟨cs, hcs1, hcs2⟩ := setCells_block b6 30 (0, 0) (encC cw) 0 Wz _ hbz
 have hk5 := keeps_setCells b6 (encC cw) 0 Wz
 show Code.wp _ _ _ _ (Wz.setCells b6 0 (encC cw))
 generalize Wz.setCells b6 0 (encC cw) = W5 at hrs hk5 hcs1 ⊢
 have HB5 := hide (show BoxC W5 b6 cw from BoxC.of_range hcs1 (by rw [hcs2]; rfl) hrs)
 have HX5 := hide (Keeps.ext ((((HX2.out.trans E23.out).trans E34)).trans hxz) hk5 (fun g hg => by omega))
 have HO5 := hide (((hoe.out).ext hxz).keepT hk5 (OfT.one hbz) (by decide) (by decide) (by decide) (by decide) (by decide) (by decide) (by decide))
 have hGb6 : W4.heap.size ≤ b6 := by omega
 have hEb6 : Ext W4 W5 := ((Keeps.of_ext hxz).trans hk5 : Keeps (fun g => g = b6) W4 W5).below (Nat.le_refl _) (fun g hg => by omega)
 clear hrs hk5 hcs1 hcs2 hbz hxz hth
 have hE25 := (E23.out.trans E34).trans hEb6
 have HO25 := hide (HO2.out.ext hE25)
 have HBC := hide (HB2.out.ext hE25)
 have HSA := hide (SA.out.ext (E34.trans hEb6))
 have hlo : ∀ {e : TypeId} {size n : Nat} {v : Value} {xs : List Value}, W2.ownsRow w.heap.size e size v n xs → ∀ g, v.ownBlock = some g → g < W2.heap.size := fun h g hg => (h.lt g hg).2
 have HLO := hide (show (∀ g, c.sv.ownBlock = some g → g < W2.heap.size) ∧ (∀ s ∈ c.S, ∀ g, s.kv.ownBlock = some g → g < W2.heap.size) ∧ (∀ g, c.ev.ownBlock = some g → g < W2.heap.size) ∧ (∀ r ∈ c.R, ∀ g, r.pv.ownBlock = some g → g < W2.heap.size) from
  ⟨hlo HO2.out.s, fun s hs => hlo (HO2.out.k s hs), hlo HO2.out.e, fun r hr => hlo (HO2.out.rr r hr).2.1⟩)
 have HWO := hide (show W2.heap.size ≤ W3.heap.size from E23.out.size)
 have hs0 := gen_svcs HCC.out
 have HCR := hide g0.2.1
 have hso := HO25.out.s
 obtain ⟨gs, capS, hsv, hcapS⟩ := owns_form hso hs0
 have hgs : gs < W2.heap.size := HLO.out.1 gs (by rw [hsv]; rfl)
 rw [hsv] at hso
 have HSO := hide hso
 have HGS := hide (MutX.of (P := (fun t => t = 38 ∨ t = 9 ∨ t = 40 ∨ t = 42)) hso hgs (.inl rfl))
 have HSV := hide hsv
 have HKV := hide (show KvS W5 gs c.S from fun j hj => by
  have := cell_row encV_len hso j hj 1 _ rfl
  simpa using this.1)
 have HN10 := hide (chkC_ends g0.2.1).1
 have HSB := hide (show ∀ wr, MutW w.heap.size W2.heap.size (fun t => t = 38 ∨ t = 9 ∨ t = 40 ∨ t = 42) W5 wr → wr.cell? ⟨b3, 0, none⟩ = some (.slice (some ⟨gs, 0, none⟩) c.S.length capS) from fun wr h => by
  rw [← HSV.out]
  exact (h.box HBC.out (by decide)).cell 0 _ rfl)
 clear hE25 hlo hs0 hso hgs hsv hEb6 HB2 HO2 HX2 E23 E34 SA g0 ho hoe
 go_wp2_with fail
 go_loopw [7] (fun v7 wr => ∃ i : Nat, i ≤ c.S.length ∧ v7 = .int .i64 i ∧ Hid (MutW w.heap.size W2.heap.size (fun t => t = 38 ∨ t = 9 ∨ t = 40 ∨ t = 42) W5 wr) ∧ Hid (KvS wr gs c.S)) (fun i _ => c.S.length - (intOf i).toNat)
 case atStart => exact ⟨0, Nat.zero_le _, rfl, MutW.refl _ _ _ _, HKV.out⟩
 case round =>
  clear HKV
  obtain ⟨i, hi, rfl, hmw, hkv⟩ := hrel
  generalize wr = wo at *
  have HMU := hide hmw.out
  have HKV := hide hkv.out
  clear hmw hkv
  have q0 := HSB.out _ HMU.out
  by_cases hil : i < c.S.length
  ·have hiz : (i : Int) < c.S.length := by omega
   have hiz0 : (0 : Int) ≤ i := by omega
   have hn10 := HN10.out
   have HWI := hide (show IntKind.i64.wrap ((i : Int) + 1) = ((i + 1 : Nat) : Int) by rw [IntKind.wrap_i64]; omega)
   have hok := HO25.out.k _ (List.getElem_mem hil)
   have hlk := HLO.out.2.1 _ (List.getElem_mem hil)
   have hkq : ∀ wr, KvS wr gs c.S → wr.cell? ⟨gs, i * 7 + 1, none⟩ = some c.S[i].kv := fun wr h => h i hil
   obtain ⟨ak, ck, hvk⟩ := owns_shape hok
   rw [hvk] at hok hkq hlk
   obtain ⟨mk, hmk⟩ : ∃ mk, c.S[i].K.length = mk := ⟨_, rfl⟩
   rw [hmk] at hok hkq hlk
   have HOK := hide hok
   have HKQ := hide hkq
   have HLK := hide hlk
   have HM63 := hide (owns_len hok)
   clear hok hkq hlk hvk hmk hn10
   go_wp2_with fail
   clear q0
   go_loopw [8] (fun v8 wr => ∃ k : Nat, k ≤ mk ∧ v8 = .int .i64 k ∧ Hid (MutW w.heap.size W2.heap.size (fun t => t = 38 ∨ t = 9 ∨ t = 40 ∨ t = 42) W5 wr) ∧ Hid (KvS wr gs c.S)) (fun i _ => mk - (intOf i).toNat)
   case atStart => exact ⟨0, Nat.zero_le _, rfl, HMU.out, HKV.out⟩
   case round =>
    clear HMU HKV
    obtain ⟨k, hk, rfl, hmw, hkv⟩ := hrel
    generalize wr = wp at *
    have HMU := hide hmw.out
    have HKV := hide hkv.out
    clear hmw hkv
    have q0 := HSB.out _ HMU.out
    have q1 := HKQ.out _ HKV.out
    by_cases hkl : k < mk
    ·have hkz : (k : Int) < mk := by omega
     have hkz0 : (0 : Int) ≤ k := by omega
     have hm63 := HM63.out
     have hwk : IntKind.i64.wrap ((k : Int) + 1) = ((k + 1 : Nat) : Int) := by rw [IntKind.wrap_i64]; omega
     have hok := HOK.out
     obtain ⟨gk, ck', hgk, -⟩ := owns_form hok (by omega)
     simp only [Value.slice.injEq] at hgk
     obtain ⟨hak, -, rfl⟩ := hgk
     have hlk := HLK.out
     rw [hak] at hok q1 hlk
     have hX := MutX.of (P := (fun t => t = 38 ∨ t = 9 ∨ t = 40 ∨ t = 42)) hok (hlk gk rfl) (.inr (.inl rfl))
     obtain ⟨⟨u, qk⟩, zk⟩ := HMU.out.any hok k (by omega)
     have hne : gk ≠ gs := fun e => by
      subst e
      obtain ⟨cs, fz, h1⟩ := ownsRow_kind HSO.out gk rfl
      exact absurd (owns_type hok (g := gk) rfl h1) (by decide)
     have HMX := hide (HMU.out.set hX k (.string ⟨#[47, 116, 117, 114, 110, 101, 100]⟩))
     have HKX := hide (HKV.out.far hne k (.string ⟨#[47, 116, 117, 114, 110, 101, 100]⟩))
     clear hm63 hok hlk hX hne HMU HKV hak
     go_wp2
     go_roundw
     case rel => exact ⟨k + 1, by omega, by first | rfl | simp, HMX.out, HKX.out⟩
     case measure => simp [intOf] <;> omega
    ·obtain rfl : k = mk := by omega
     have hso := HSO.out
     obtain ⟨⟨u, qk⟩, zk⟩ := HMU.out.any hso (i * 7 + 2) (by omega)
     have HMX := hide (HMU.out.set HGS.out (i * 7 + 2) (.int .i64 77))
     have HKX := hide (HKV.out.work i (.int .i64 77))
     have hwi := HWI.out
     clear hso HMU HKV HWI
     go_wp2
     go_roundw
     case rel => exact ⟨i + 1, by omega, by first | rfl | simp, HMX.out, HKX.out⟩
     case measure => simp [intOf] <;> omega
  ·obtain rfl : i = c.S.length := by omega
   have heo := HO25.out.e
   obtain ⟨ae, ce', hev⟩ := owns_shape heo
   rw [hev] at heo
   have HEO := hide heo
   have HE63 := hide (owns_len heo)
   have HEL := hide (show ∀ g, (Value.slice ae c.E.length ce').ownBlock = some g → g < W2.heap.size from by rw [← hev]; exact HLO.out.2.2.1)
   have HEB := hide (show ∀ wr, MutW w.heap.size W2.heap.size (fun t => t = 38 ∨ t = 9 ∨ t = 40 ∨ t = 42) W5 wr → wr.cell? ⟨b3, 1, none⟩ = some (.slice ae c.E.length ce') from fun wr h => by
    rw [← hev]
    exact (h.box HBC.out (by decide)).cell 1 _ rfl)
   clear heo hev HKV
   go_wp2_with fail
   clear q0
   go_loopw [9] (fun v9 wr => ∃ i : Nat, i ≤ c.E.length ∧ v9 = .int .i64 i ∧ Hid (MutW w.heap.size W2.heap.size (fun t => t = 38 ∨ t = 9 ∨ t = 40 ∨ t = 42) W5 wr)) (fun i _ => c.E.length - (intOf i).toNat)
   case atStart => exact ⟨0, Nat.zero_le _, rfl, HMU.out⟩
   case round =>
    clear HMU
    obtain ⟨i, hi2, rfl, hmw⟩ := hrel
    generalize wr = wp at *
    have HMU := hide hmw.out
    clear hmw
    have q0 := HEB.out _ HMU.out
    by_cases hil2 : i < c.E.length
    ·have hiz : (i : Int) < c.E.length := by omega
     have hiz0 : (0 : Int) ≤ i := by omega
     have h63 := HE63.out
     have hwi : IntKind.i64.wrap ((i : Int) + 1) = ((i + 1 : Nat) : Int) := by rw [IntKind.wrap_i64]; omega
     have hok := HEO.out
     obtain ⟨ge, ck', hgk, -⟩ := owns_form hok (by omega)
     simp only [Value.slice.injEq] at hgk
     obtain ⟨hak, -, rfl⟩ := hgk
     have hlk := HEL.out
     rw [hak] at hok q0 hlk
     have hX := MutX.of (P := (fun t => t = 38 ∨ t = 9 ∨ t = 40 ∨ t = 42)) hok (hlk ge rfl) (.inr (.inr (.inl rfl)))
     obtain ⟨⟨u, qk⟩, zk⟩ := HMU.out.any hok (i * 3) (by omega)
     have HMX := hide (HMU.out.set hX (i * 3) (.int .i64 30))
     clear h63 hok hlk hX HMU hak
     go_wp2
     go_roundw
     case rel => exact ⟨i + 1, by omega, by first | rfl | simp, HMX.out⟩
     case measure => simp [intOf] <;> omega
    ·obtain rfl : i = c.E.length := by omega
     have hro := HO25.out.r
     obtain ⟨ar, cr', hrv⟩ := owns_shape hro
     have HRO := hide hro
     have HR63 := hide (owns_len hro)
     have HRB := hide (show ∀ wr, MutW w.heap.size W2.heap.size (fun t => t = 38 ∨ t = 9 ∨ t = 40 ∨ t = 42) W5 wr → wr.cell? ⟨b3, 2, none⟩ = some (.slice ar c.R.length cr') from fun wr h => by
      rw [← hrv]
      exact (h.box HBC.out (by decide)).cell 2 _ rfl)
     have HRV := hide hrv
     clear hro hrv
     go_wp2_with fail
     clear q0
     go_loopw [10] (fun v10 wr => ∃ i : Nat, i ≤ c.R.length ∧ v10 = .int .i64 i ∧ Hid (MutW w.heap.size W2.heap.size (fun t => t = 38 ∨ t = 9 ∨ t = 40 ∨ t = 42) W5 wr)) (fun i _ => c.R.length - (intOf i).toNat)
     case atStart => exact ⟨0, Nat.zero_le _, rfl, HMU.out⟩
     case round =>
      clear HMU
      obtain ⟨i, hi3, rfl, hmw⟩ := hrel
      generalize wr = wq at *
      have HMU := hide hmw.out
      clear hmw
      have q0 := HRB.out _ HMU.out
      by_cases hil3 : i < c.R.length
      ·have hiz : (i : Int) < c.R.length := by omega
       have hiz0 : (0 : Int) ≤ i := by omega
       have h63 := HR63.out
       have hwi : IntKind.i64.wrap ((i : Int) + 1) = ((i + 1 : Nat) : Int) := by rw [IntKind.wrap_i64]; omega
       have hok := HRO.out
       rw [HRV.out] at hok
       obtain ⟨gr, ck', hgk, -⟩ := owns_form hok (by omega)
       simp only [Value.slice.injEq] at hgk
       obtain ⟨hak, -, rfl⟩ := hgk
       rw [hak] at hok q0
       have hpo := (HO25.out.rr _ (List.getElem_mem hil3)).2.1
       have hpl := HLO.out.2.2.2 _ (List.getElem_mem hil3)
       have hp0 := right_parts HCR.out (List.getElem_mem hil3)
       obtain ⟨gp, cp, hpv, -⟩ := owns_form hpo hp0
       have q1 : wq.cell? ⟨gr, i * 19 + 3, none⟩ = some (.slice (some ⟨gp, 0, none⟩) c.R[i].P.length cp) := by
        rw [HMU.out.cell hok rfl (by decide), ← hpv]
        exact (cell_row encR_len hok i hil3 3 _ rfl).1
       rw [hpv] at hpo hpl
       have hX := MutX.of (P := (fun t => t = 38 ∨ t = 9 ∨ t = 40 ∨ t = 42)) hpo (hpl gp rfl) (.inr (.inr (.inr rfl)))
       obtain ⟨⟨u, qk⟩, zk⟩ := HMU.out.any hpo 0 (by omega)
       have HMX := hide (HMU.out.set hX 0 (.int .i64 9))
       have hpz : (0 : Int) < c.R[i].P.length := by omega
       clear h63 hok hX HMU hak hpo hpl hpv
       generalize c.R[i].P.length = pl at *
       go_wp2
       go_roundw
       case rel => exact ⟨i + 1, by omega, by first | rfl | simp, HMX.out⟩
       case measure => simp [intOf] <;> omega
      ·obtain rfl : i = c.R.length := by omega
       have hkq : ∀ g, MutX w.heap.size W2.heap.size (fun t => t = 38 ∨ t = 9 ∨ t = 40 ∨ t = 42) W5 g → w.heap.size ≤ g := fun g h => h.1
       have HX6 := hide (Keeps.ext HX5.out HMU.out.k hkq)
       have HSN := hide (HSA.out.keepB HMU.out.k (fun q h => h.2.1))
       have hcw6 := HMU.out.conf HO5.out HWO.out
       have hbw6 := HMU.out.box HB5.out (by decide)
       have HBW := hide (show ∀ X, Ext wq X → BoxC X b6 cw from fun X hX => hbw6.ext hX)
       have HOW := hide (show ∀ X, Ext wq X → ConfOwn W3.heap.size X cw from fun X hX => hcw6.ext hX)
       have hmm6 := HM.out.ext HX6.out
       have HMM := hide (show ∀ X, Ext wq X → MaxV X from fun X hX => hmm6.ext hX)
       clear hkq hbw6 hcw6 hmm6
       generalize wq = W6 at *
       obtain ⟨d, bt, bs, br, nb, Rs, g, sa, hca⟩ := HSN.out
       have hcore : d.core = cw.core := hca.trans (HCC.out.trans HCW.out.symm)
       have HDG := hide (show d.core = genC L from hca.trans HCC.out)
       have HSC := hide (core_S hcore)
       have HEC := hide (core_E hcore)
       have HRL := hide (show cw.R.length = d.R.length from by
        have h1 : d.R.map RuleD.core = cw.R.map RuleD.core := by
         have : d.core.R = cw.core.R := by rw [hcore]
         exact this
        have h2 := congrArg List.length h1
        simpa using h2.symm)
       have IA := hide sa
       have g1 := good_conf HCW.out
       have HNS := hide (svcs_nodup (chkC_ends g1.2.1).2.2.2.1)
       have HFT := hide g1.1
       have HCK := hide g1.2.1
       have HL40 := hide (show cw.E.length ≤ 40 from Nat.le_trans g1.2.2 (by decide))
       have HND := hide (show (d.E.map EndD.id).Nodup from sa.nodup)
       have HNW := hide (chkC_ends g1.2.1).1
       have hso := (HOW.out W6 (Below.refl _ _)).s
       obtain ⟨aW, cW, hvW⟩ := owns_shape hso
       have HQ1 := hide (show ∀ X, Ext W6 X → X.cell? ⟨b6, 0, none⟩ = some (.slice aW cw.S.length cW) from fun X hX => by
        rw [← hvW]
        exact (HBW.out X hX).cell 0 _ rfl)
       rw [hvW] at hso
       have HSL := hide (Sl.of_own' (enc := encV) encV_len hso)
       clear hcore sa hca g1 hso hvW HSN HMU HSA HBC HO25 HLO HSO HGS HSV HSB HEO HE63 HEL HEB HRO HR63 HRB HRV HN10 HCR
       go_wp2_with fail
       clear q0
       go_loopw [11] (fun v11 wr => ∃ i : Nat, i ≤ cw.S.length ∧ v11 = .int .i64 i ∧ Hid (Ext W6 wr)) (fun i _ => cw.S.length - (intOf i).toNat)
       case atStart => exact ⟨0, Nat.zero_le _, rfl, Below.refl _ _⟩
       case round =>
        obtain ⟨i, hi5, rfl, hx⟩ := hrel
        generalize wr = wv at *
        have HX := hide hx.out
        clear hx
        by_cases hil5 : i < cw.S.length
        ·have hiz : (i : Int) < cw.S.length := by omega
         have hiz0 : (0 : Int) ≤ i := by omega
         have hnw := HNW.out
         have HWI := hide (show IntKind.i64.wrap ((i : Int) + 1) = ((i + 1 : Nat) : Int) by rw [IntKind.wrap_i64]; omega)
         have HIZ := hide (show (0 : Int) ≤ i ∧ (i : Int) < cw.S.length from ⟨hiz0, hiz⟩)
         obtain ⟨bW, offW, rfl, hbW, hrS⟩ := svcs_at HSL.out i hil5
         have hok := (HOW.out W6 (Below.refl _ _)).k _ (List.getElem_mem hil5)
         obtain ⟨wa, wc, hvw⟩ := owns_shape hok
         have hsel := svcAt_self HNS.out i hil5
         have hft := (HFT.out.1 _ (List.getElem_mem hil5)).1
         obtain ⟨s, hse⟩ : ∃ s, cw.S[i] = s := ⟨_, rfl⟩
         rw [hse] at hrS hvw hsel hft hok
         obtain ⟨wid, wkv, wK, wwk, wsl, wqu, wba, wwm⟩ := s
         simp only [] at hvw hsel hft hok
         subst hvw
         have hrs2 : ∀ X, Ext W6 X → X.rangeAt bW (offW + i * 7) (encV (⟨wid, .slice wa wK.length wc, wK, wwk, wsl, wqu, wba, wwm⟩ : SvcD)) := fun X hX j v hv => (hX.cell (p := ⟨bW, offW + i * 7 + j, none⟩) (World.block_lt_of_cell? W6 _ (hrS j v hv))).trans (hrS j v hv)
         have HRS := hide hrs2
         have HQI := hide (show ∀ X, Ext W6 X → X.cell? ⟨bW, offW + i * 7, none⟩ = some (.int .i64 wid) from fun X hX => hrs2 X hX 0 _ rfl)
         have HKW := hide (show ∀ X, Ext W6 X → Strs X (.slice wa wK.length wc) wK from fun X hX => (Sl.of_own' (enc := encS) (fun _ => rfl) hok).ext hX)
         have HI := hide hft
         have hsc := core_svcAt HSC.out wid
         rw [hsel] at hsc
         obtain ⟨sv, hsv⟩ : ∃ sv, svcAt d.S wid = sv := ⟨_, rfl⟩
         rw [hsv] at hsc
         have HSVE := hide hsv
         have HCO0 := hide hsc
         obtain ⟨T, hT⟩ : ∃ T, endsAt d.E wid = T := ⟨_, rfl⟩
         have HT1 := hide hT
         have HT2 := hide (show byId 40 (fun e => e.svc == wid) cw.E = T from by
          rw [← hT, HEC.out]
          exact byId_svc HCK.out wid)
         have q0 := HQ1.out _ HX.out
         have q2 := HQI.out _ HX.out
         clear hrS hok hsel hft hse hrs2 hsc hsv hT hnw
         go_wp2_with fail
         refine (mservice_any wid wv (IA.out.ext HX.out) HI.out).mono ?_
         rintro e w10 ⟨kv, rfl, hkv, E10⟩
         rw [HSVE.out]
         rw [HSVE.out] at hkv
         obtain ⟨ak, ck, rfl⟩ := owns_shape hkv
         obtain ⟨sid, skv, sK, swork, sslots, squeue, sbal, swarm⟩ := sv
         simp only [] at hkv
         simp only [SvcD.val]
         have hx11 : Ext w10 (w10.alloc (.cells #[.int .i64 sid, .slice ak sK.length ck, .int .i64 swork, .int .i64 sslots, .int .i64 squeue, .int .i64 sbal, .int .i64 swarm] 38)) := (Below.refl _ _).alloc (Nat.le_refl _) _
         have hbv := heap_alloc_new w10 (.cells #[.int .i64 sid, .slice ak sK.length ck, .int .i64 swork, .int .i64 sslots, .int .i64 squeue, .int .i64 sbal, .int .i64 swarm] 38)
         clear q0 q2
         go_upto_region 26 with (fail)
         generalize w10.alloc (.cells #[.int .i64 sid, .slice ak sK.length ck, .int .i64 swork, .int .i64 sslots, .int .i64 squeue, .int .i64 sbal, .int .i64 swarm] 38) = W11 at hx11 hbv ⊢
         obtain ⟨b12, hb12⟩ : ∃ b, w10.heap.size = b := ⟨_, rfl⟩
         rw [hb12] at hbv ⊢
         have HV12 := hide (show BoxV W11 b12 ⟨sid, .slice ak sK.length ck, sK, swork, sslots, squeue, sbal, swarm⟩ from hbv)
         have HKR := hide (owns_ext hkv hx11)
         have HK12 := hide ((Sl.of_own' (enc := encS) (fun _ => rfl) hkv).ext hx11)
         have HCO := hide (show (⟨sid, .slice ak sK.length ck, sK, swork, sslots, squeue, sbal, swarm⟩ : SvcD).core = (⟨wid, .slice wa wK.length wc, wK, wwk, wsl, wqu, wba, wwm⟩ : SvcD).core from HCO0.out)
         have H11 := hide (HX.out.trans (E10.trans hx11))
         have HSX := hide HX.out.size
         clear hbv hx11 hb12 hkv E10 HX
         refine wp_region_rw 221 [] [110, 111, 112, 113, 114, 115, 116, 117] (fun _ w' => Ext W11 w') (fun (t : Nat) (wI : World) (v : Value) => match t with | 110 => v = (.agg #[.int .i64 sid, .slice ak sK.length ck, .int .i64 swork, .int .i64 sslots, .int .i64 squeue, .int .i64 sbal, .int .i64 swarm]) | 111 => v = (.pointer (some ⟨b6, 0, none⟩)) | 112 => v = (.slice (some ⟨bW, offW, none⟩) cw.S.length cW) | 113 => v = (.int .i64 (i : Int)) | 114 => v = (.pointer (some ⟨bW, offW + i * 7, none⟩)) | 115 => v = (.agg #[.int .i64 wid, .slice wa wK.length wc, .int .i64 wwk, .int .i64 wsl, .int .i64 wqu, .int .i64 wba, .int .i64 wwm]) | 116 => v = (.bool true) | 117 => v = (.bool false) | _ => True) (fun w' w'' => Ext w' w'') (by kernel_rfl) rfl (by kernel_rfl) (by kernel_rfl) (by kernel_rfl) (by kernel_rfl) ?_ ?_ ?_ ?_ ?_ ?_ ?_
         ·intro w' w'' h
          exact h
         ·intro t w' w'' v hR hv
          exact hv
         ·intro vs w' w'' h e
          exact Ext.trans (show Ext _ w' from h) e
         ·exact (Below.refl _ _).drew
         ·intro i o ho hmi vs X w' hpk hph hX hI hF K hK
          have hin : i < 8 := (Array.getElem?_eq_some_iff.1 ho).1
          have hi : i = 0 ∨ i = 1 ∨ i = 2 ∨ i = 3 ∨ i = 4 ∨ i = 5 ∨ i = 6 ∨ i = 7 := by omega
          rcases hi with rfl | rfl | rfl | rfl | rfl | rfl | rfl | rfl
          ·obtain rfl := Option.some.inj ho
           have e12 : X 12 = (.pointer (some ⟨b12, 0, none⟩)) := hF 12 (by omega) (by kernel_rfl)
           have hx : Ext W11 w' := hph
           unfold wpOp
           simp only [ho]
           rw [if_pos (by rfl)]
           left
           rw [frame221]
           refine wp_load_mid 38 (.tmp 12) rfl b12 0 e12 (encV (⟨sid, .slice ak sK.length ck, sK, swork, sslots, squeue, sbal, swarm⟩ : SvcD)) dv ((HV12.out.ext hx).range) hdv1 hdv2 Tryz.svcSize (metK (hK.out (.agg #[.int .i64 sid, .slice ak sK.length ck, .int .i64 swork, .int .i64 sslots, .int .i64 squeue, .int .i64 sbal, .int .i64 swarm]) _ (Below.refl _ _) (fun d hd => by cases hd; exact rfl)) ?_)
           rfl
          ·obtain rfl := Option.some.inj ho
           have e6 : X 6 = (.pointer (some ⟨b6, 0, none⟩)) := hF 6 (by omega) (by kernel_rfl)
           unfold wpOp
           simp only [ho]
           rw [if_pos (by rfl)]
           left
           rw [frame221]
           go_simp
           refine metK (hK.out ((.pointer (some ⟨b6, 0, none⟩))) _ (Below.refl _ _) (fun d hd => by cases hd; exact rfl)) ?_
           simp [frame221, Act.put, *]
          ·obtain rfl := Option.some.inj ho
           have e111 : X 111 = (.pointer (some ⟨b6, 0, none⟩)) := hI 111 (by kernel_rfl) (by kernel_rfl)
           have hx : Ext W11 w' := hph
           have q8 := HQ1.out w' (H11.out.trans hx)
           unfold wpOp
           simp only [ho]
           rw [if_pos (by rfl)]
           left
           rw [frame221]
           go_simp
           refine metK (hK.out ((.slice (some ⟨bW, offW, none⟩) cw.S.length cW)) _ (Below.refl _ _) (fun d hd => by cases hd; exact rfl)) ?_
           simp [frame221, Act.put, *]
          ·obtain rfl := Option.some.inj ho
           have e11 : X 11 = (.int .i64 (i : Int)) := hF 11 (by omega) (by kernel_rfl)
           unfold wpOp
           simp only [ho]
           rw [if_pos (by rfl)]
           left
           rw [frame221]
           go_simp
           refine metK (hK.out ((.int .i64 (i : Int))) _ (Below.refl _ _) (fun d hd => by cases hd; exact rfl)) ?_
           simp [frame221, Act.put, *]
          ·obtain rfl := Option.some.inj ho
           have e112 : X 112 = (.slice (some ⟨bW, offW, none⟩) cw.S.length cW) := hI 112 (by kernel_rfl) (by kernel_rfl)
           have e113 : X 113 = (.int .i64 (i : Int)) := hI 113 (by kernel_rfl) (by kernel_rfl)
           have hz0 := HIZ.out.1
           have hz1 := HIZ.out.2
           unfold wpOp
           simp only [ho]
           rw [if_pos (by rfl)]
           left
           rw [frame221]
           go_simp
           refine metK (hK.out ((.pointer (some ⟨bW, offW + i * 7, none⟩))) _ (Below.refl _ _) (fun d hd => by cases hd; exact rfl)) ?_
           simp [frame221, Act.put, *]
          ·obtain rfl := Option.some.inj ho
           have e114 : X 114 = (.pointer (some ⟨bW, offW + i * 7, none⟩)) := hI 114 (by kernel_rfl) (by kernel_rfl)
           have hx : Ext W11 w' := hph
           unfold wpOp
           simp only [ho]
           rw [if_pos (by rfl)]
           left
           rw [frame221]
           refine wp_load_mid 38 (.tmp 114) rfl bW (offW + i * 7) e114 (encV (⟨wid, .slice wa wK.length wc, wK, wwk, wsl, wqu, wba, wwm⟩ : SvcD)) dv (HRS.out w' (H11.out.trans hx)) hdv1 hdv2 Tryz.svcSize (metK (hK.out (.agg #[.int .i64 wid, .slice wa wK.length wc, .int .i64 wwk, .int .i64 wsl, .int .i64 wqu, .int .i64 wba, .int .i64 wwm]) _ (Below.refl _ _) (fun d hd => by cases hd; exact rfl)) ?_)
           rfl
          ·obtain rfl := Option.some.inj ho
           have e110 : X 110 = (.agg #[.int .i64 sid, .slice ak sK.length ck, .int .i64 swork, .int .i64 sslots, .int .i64 squeue, .int .i64 sbal, .int .i64 swarm]) := hI 110 (by kernel_rfl) (by kernel_rfl)
           have e115 : X 115 = (.agg #[.int .i64 wid, .slice wa wK.length wc, .int .i64 wwk, .int .i64 wsl, .int .i64 wqu, .int .i64 wba, .int .i64 wwm]) := hI 115 (by kernel_rfl) (by kernel_rfl)
           have hx : Ext W11 w' := hph
           unfold wpOp
           simp only [ho]
           rw [if_pos (by rfl)]
           left
           rw [frame221]
           go_simp
           refine (sameS_true (⟨sid, .slice ak sK.length ck, sK, swork, sslots, squeue, sbal, swarm⟩ : SvcD) (⟨wid, .slice wa wK.length wc, wK, wwk, wsl, wqu, wba, wwm⟩ : SvcD) w' (HK12.out.ext hx) ((HKW.out _ (H11.out.trans hx))) HCO.out).mono ?_
           rintro e w9 ⟨rfl, E9⟩
           refine metK (hK.out (.bool true) w9 E9 (fun d hd => by cases hd; rfl)) ?_
           simp [frame221, Act.put, *]
          ·obtain rfl := Option.some.inj ho
           have e116 : X 116 = (.bool true) := hI 116 (by kernel_rfl) (by kernel_rfl)
           unfold wpOp
           simp only [ho]
           rw [if_pos (by rfl)]
           left
           rw [frame221]
           go_simp
           refine metK (hK.out ((.bool false)) _ (Below.refl _ _) (fun d hd => by cases hd; exact rfl)) ?_
           simp [frame221, Act.put, *]
         ·intro i o ho hmi vs X w' hqi hql hph hX hI hF K hK
          rcases vs with _
          ·simp at hql <;> omega
         ·intro vs X w' hlen hph hX hI
          have e110 : X 110 = (.agg #[.int .i64 sid, .slice ak sK.length ck, .int .i64 swork, .int .i64 sslots, .int .i64 squeue, .int .i64 sbal, .int .i64 swarm]) := hI 110 (by omega) (by kernel_rfl) (by kernel_rfl)
          have e111 : X 111 = (.pointer (some ⟨b6, 0, none⟩)) := hI 111 (by omega) (by kernel_rfl) (by kernel_rfl)
          have e112 : X 112 = (.slice (some ⟨bW, offW, none⟩) cw.S.length cW) := hI 112 (by omega) (by kernel_rfl) (by kernel_rfl)
          have e113 : X 113 = (.int .i64 (i : Int)) := hI 113 (by omega) (by kernel_rfl) (by kernel_rfl)
          have e114 : X 114 = (.pointer (some ⟨bW, offW + i * 7, none⟩)) := hI 114 (by omega) (by kernel_rfl) (by kernel_rfl)
          have e115 : X 115 = (.agg #[.int .i64 wid, .slice wa wK.length wc, .int .i64 wwk, .int .i64 wsl, .int .i64 wqu, .int .i64 wba, .int .i64 wwm]) := hI 115 (by omega) (by kernel_rfl) (by kernel_rfl)
          have e116 : X 116 = (.bool true) := hI 116 (by omega) (by kernel_rfl) (by kernel_rfl)
          have e117 : X 117 = (.bool false) := hI 117 (by omega) (by kernel_rfl) (by kernel_rfl)
          rcases vs with _ | ⟨vz, vs⟩
          rotate_left
          ·simp at hlen
          clear hX hI hlen
          simp only [overF, List.foldl_cons, List.foldl_nil, List.setIfInBounds_toArray, List.set_cons_succ, List.set_cons_zero, e110, e111, e112, e113, e114, e115, e116, e117]
          have hx9 : Ext W11 w' := hph
          clear hph e110 e111 e112 e113 e114 e115 e116 e117
          generalize w' = W12 at *
          have HA12 := hide hx9
          clear hx9
          have HV := hide (HV12.out.ext HA12.out)
          have HKR2 := hide (owns_ext HKR.out HA12.out)
          have HK63 := hide (owns_len HKR.out)
          have H12 := hide (H11.out.trans HA12.out)
          clear HV12 HKR HK12 HCO H11 HA12
          go_wp2_with fail
          go_loopw [14] (fun v14 wr => ∃ k : Nat, k ≤ sK.length ∧ v14 = .int .i64 k ∧ Hid (MutW wv.heap.size W12.heap.size (fun t => t = 9) W12 wr)) (fun i _ => sK.length - (intOf i).toNat)
          case atStart => exact ⟨0, Nat.zero_le _, rfl, MutW.refl _ _ _ _⟩
          case round =>
           obtain ⟨k, hk, rfl, hmw⟩ := hrel
           generalize wr = wy at *
           have HMU := hide hmw.out
           clear hmw
           have q0 : wy.cell? ⟨b12, 1, none⟩ = some (.slice ak sK.length ck) := (HMU.out.boxV HV.out (by decide)).cell 1 _ rfl
           by_cases hkl : k < sK.length
           ·have hkz : (k : Int) < sK.length := by omega
            have hkz0 : (0 : Int) ≤ k := by omega
            have hk63 := HK63.out
            have hwk : IntKind.i64.wrap ((k : Int) + 1) = ((k + 1 : Nat) : Int) := by rw [IntKind.wrap_i64]; omega
            have hok := HKR2.out
            obtain ⟨gk, ck', hgk, -⟩ := owns_form hok (by omega)
            simp only [Value.slice.injEq] at hgk
            obtain ⟨hak, -, rfl⟩ := hgk
            rw [hak] at hok q0
            have hX := MutX.of (hi := W12.heap.size) (P := fun t => t = 9) hok (hok.lt gk rfl).2 rfl
            obtain ⟨⟨u, qk⟩, zk⟩ := HMU.out.any hok k (by omega)
            have HMX := hide (HMU.out.set hX k (.string ⟨#[47, 111, 116, 104, 101, 114]⟩))
            clear hk63 hok hX HMU hak
            go_wp2
            go_roundw
            case rel => exact ⟨k + 1, by omega, by first | rfl | simp, HMX.out⟩
            case measure => simp [intOf] <;> omega
           ·obtain rfl : k = sK.length := by omega
            have HY := hide (Keeps.ext H12.out HMU.out.k (fun q h => Nat.le_trans HSX.out h.1))
            have q1 := HQ1.out _ HY.out
            have q2 := HQI.out _ HY.out
            clear HMU HKR2 HV HK63 H12
            go_wp2_with fail
            refine (mends_any wid wy (IA.out.ext HY.out).box (ends_sl (IA.out.ext HY.out).own) HND.out IA.out.few).mono ?_
            rintro e w14 ⟨v14, rfl, h14, E14⟩
            rw [HT1.out] at h14
            obtain ⟨ay, cy, rfl⟩ := owns_shape h14
            have HYR := hide h14
            have HY63 := hide (owns_len h14)
            have HYS := hide (Nat.le_trans HY.out.size (Nat.le_refl wy.heap.size))
            have H14 := hide (HY.out.trans E14)
            clear h14 E14 q0 q1 q2 HY
            go_wp2_with fail
            go_loopw [16] (fun v16 wr => ∃ k : Nat, k ≤ T.length ∧ v16 = .int .i64 k ∧ Hid (MutW wy.heap.size w14.heap.size (fun t => t = 40) w14 wr)) (fun i _ => T.length - (intOf i).toNat)
            case atStart => exact ⟨0, Nat.zero_le _, rfl, MutW.refl _ _ _ _⟩
            case round =>
             obtain ⟨k, hk, rfl, hmw⟩ := hrel
             generalize wr = wz at *
             have HMU := hide hmw.out
             clear hmw
             by_cases hkl : k < T.length
             ·have hkz : (k : Int) < T.length := by omega
              have hkz0 : (0 : Int) ≤ k := by omega
              have hk63 := HY63.out
              have hwk : IntKind.i64.wrap ((k : Int) + 1) = ((k + 1 : Nat) : Int) := by rw [IntKind.wrap_i64]; omega
              have hok := HYR.out
              obtain ⟨gk, ck', hgk, -⟩ := owns_form hok (by omega)
              simp only [Value.slice.injEq] at hgk
              obtain ⟨hak, -, rfl⟩ := hgk
              rw [hak] at hok
              subst hak
              have hX := MutX.of (hi := w14.heap.size) (P := fun t => t = 40) hok (hok.lt gk rfl).2 rfl
              obtain ⟨⟨u, qk⟩, zk⟩ := HMU.out.any hok (k * 3 + 2) (by omega)
              have HMX := hide (HMU.out.set hX (k * 3 + 2) (.int .i64 4))
              clear hk63 hok hX HMU
              go_wp2
              go_roundw
              case rel => exact ⟨k + 1, by omega, by first | rfl | simp, HMX.out⟩
              case measure => simp [intOf] <;> omega
             ·obtain rfl : k = T.length := by omega
              have HZ := hide (Keeps.ext H14.out HMU.out.k (fun q h => Nat.le_trans HYS.out h.1))
              have q1 := HQ1.out _ HZ.out
              have q2 := HQI.out _ HZ.out
              clear HMU HYR HY63 H14
              go_wp2_with fail
              refine (mservice_any wid wz (IA.out.ext HZ.out) HI.out).mono ?_
              rintro e w15 ⟨kv, rfl, hkv, E15⟩
              rw [HSVE.out]
              rw [HSVE.out] at hkv
              obtain ⟨ak2, ck2, rfl⟩ := owns_shape hkv
              simp only [] at hkv
              simp only [SvcD.val]
              have hx17 : Ext w15 (w15.alloc (.cells #[.int .i64 sid, .slice ak2 sK.length ck2, .int .i64 swork, .int .i64 sslots, .int .i64 squeue, .int .i64 sbal, .int .i64 swarm] 38)) := (Below.refl _ _).alloc (Nat.le_refl _) _
              have hbv := heap_alloc_new w15 (.cells #[.int .i64 sid, .slice ak2 sK.length ck2, .int .i64 swork, .int .i64 sslots, .int .i64 squeue, .int .i64 sbal, .int .i64 swarm] 38)
              clear q1 q2
              go_upto_region 38 with (fail)
              generalize w15.alloc (.cells #[.int .i64 sid, .slice ak2 sK.length ck2, .int .i64 swork, .int .i64 sslots, .int .i64 squeue, .int .i64 sbal, .int .i64 swarm] 38) = W17 at hx17 hbv ⊢
              obtain ⟨b17, hb17⟩ : ∃ b, w15.heap.size = b := ⟨_, rfl⟩
              rw [hb17] at hbv ⊢
              have HV17 := hide (show BoxV W17 b17 ⟨sid, .slice ak2 sK.length ck2, sK, swork, sslots, squeue, sbal, swarm⟩ from hbv)
              have HK17 := hide ((Sl.of_own' (enc := encS) (fun _ => rfl) hkv).ext hx17)
              have HCO2 := hide (show (⟨sid, .slice ak2 sK.length ck2, sK, swork, sslots, squeue, sbal, swarm⟩ : SvcD).core = (⟨wid, .slice wa wK.length wc, wK, wwk, wsl, wqu, wba, wwm⟩ : SvcD).core from HCO0.out)
              have H17 := hide (HZ.out.trans (E15.trans hx17))
              have HBS := hide (Nat.le_trans HX6.out.size H17.out.size)
              clear hbv hx17 hb17 hkv E15 HZ
              refine wp_region_rw 221 [] [158, 159, 160, 161, 162, 163, 164, 165, 166, 167, 168, 169, 170, 171, 172, 173, 174, 175, 176, 177, 178, 179, 180, 181, 182, 183, 184, 185] (fun _ w' => Ext W17 w') (fun (t : Nat) (wI : World) (v : Value) => match t with | 158 => v = (.agg #[.int .i64 sid, .slice ak2 sK.length ck2, .int .i64 swork, .int .i64 sslots, .int .i64 squeue, .int .i64 sbal, .int .i64 swarm]) | 159 => v = (.pointer (some ⟨b6, 0, none⟩)) | 160 => v = (.slice (some ⟨bW, offW, none⟩) cw.S.length cW) | 161 => v = (.int .i64 (i : Int)) | 162 => v = (.pointer (some ⟨bW, offW + i * 7, none⟩)) | 163 => v = (.agg #[.int .i64 wid, .slice wa wK.length wc, .int .i64 wwk, .int .i64 wsl, .int .i64 wqu, .int .i64 wba, .int .i64 wwm]) | 164 => v = (.bool true) | 165 => v = (.bool false) | 166 => v = (.bool false) | 167 => v = (.pointer (some ⟨bb, 0, none⟩)) | 168 => v = (.pointer (some ⟨b6, 0, none⟩)) | 169 => v = (.slice (some ⟨bW, offW, none⟩) cw.S.length cW) | 170 => v = (.int .i64 (i : Int)) | 171 => v = (.pointer (some ⟨bW, offW + i * 7, none⟩)) | 172 => v = (.pointer (some ⟨bW, offW + i * 7, none⟩)) | 173 => v = (.int .i64 wid) | 174 => wI.ownsRow w.heap.size 40 3 v T.length (T.flatMap encE) | 175 => v = (.agg #[cw.sv, cw.ev, cw.rv, cw.tv, .int .i64 cw.w0, .int .i64 cw.w1, .int .i64 cw.w2, .int .i64 cw.w3, .int .i64 cw.w4, .int .i64 cw.w5, .int .i64 cw.w6, .int .i64 cw.panic, .int .i64 cw.low, .int .i64 cw.high, .int .i64 cw.wait, .int .i64 cw.hop, .int .i64 cw.life, .int .i64 cw.purse, .int .i64 cw.horizon, .int .i64 cw.sample]) | 176 => v = (.pointer (some ⟨b6, 0, none⟩)) | 177 => v = (.slice (some ⟨bW, offW, none⟩) cw.S.length cW) | 178 => v = (.int .i64 (i : Int)) | 179 => v = (.pointer (some ⟨bW, offW + i * 7, none⟩)) | 180 => v = (.pointer (some ⟨bW, offW + i * 7, none⟩)) | 181 => v = (.int .i64 wid) | 182 => wI.ownsRow w.heap.size 40 3 v T.length (T.flatMap encE) | 183 => v = (.bool true) | 184 => v = (.bool false) | 185 => v = (.bool false) | _ => True) (fun w' w'' => Ext w' w'') (by kernel_rfl) rfl (by kernel_rfl) (by kernel_rfl) (by kernel_rfl) (by kernel_rfl) ?_ ?_ ?_ ?_ ?_ ?_ ?_
              ·intro w' w'' h
               exact h
              ·intro t w' w'' v hR hv
               split at hv <;> first | exact hv | (exact owns_ext hv hR) | (subst hv; rfl)
              ·intro vs w' w'' h e
               exact Ext.trans (show Ext _ w' from h) e
              ·exact (Below.refl _ _).drew
              ·intro i o ho hmi vs X w' hpk hph hX hI hF K hK
               have hin : i < 28 := (Array.getElem?_eq_some_iff.1 ho).1
               have hi : i = 0 ∨ i = 1 ∨ i = 2 ∨ i = 3 ∨ i = 4 ∨ i = 5 ∨ i = 6 ∨ i = 7 ∨ i = 8 ∨ i = 9 ∨ i = 10 ∨ i = 11 ∨ i = 12 ∨ i = 13 ∨ i = 14 ∨ i = 15 ∨ i = 16 ∨ i = 17 ∨ i = 18 ∨ i = 19 ∨ i = 20 ∨ i = 21 ∨ i = 22 ∨ i = 23 ∨ i = 24 ∨ i = 25 ∨ i = 26 ∨ i = 27 := by omega
               rcases hi with rfl | rfl | rfl | rfl | rfl | rfl | rfl | rfl | rfl | rfl | rfl | rfl | rfl | rfl | rfl | rfl | rfl | rfl | rfl | rfl | rfl | rfl | rfl | rfl | rfl | rfl | rfl | rfl
               ·obtain rfl := Option.some.inj ho
                have e17 : X 17 = (.pointer (some ⟨b17, 0, none⟩)) := hF 17 (by omega) (by kernel_rfl)
                have hx : Ext W17 w' := hph
                unfold wpOp
                simp only [ho]
                rw [if_pos (by rfl)]
                left
                rw [frame221]
                refine wp_load_mid 38 (.tmp 17) rfl b17 0 e17 (encV (⟨sid, .slice ak2 sK.length ck2, sK, swork, sslots, squeue, sbal, swarm⟩ : SvcD)) dv ((HV17.out.ext hx).range) hdv1 hdv2 Tryz.svcSize (metK (hK.out (.agg #[.int .i64 sid, .slice ak2 sK.length ck2, .int .i64 swork, .int .i64 sslots, .int .i64 squeue, .int .i64 sbal, .int .i64 swarm]) _ (Below.refl _ _) (fun d hd => by cases hd; exact rfl)) ?_)
                rfl
               ·obtain rfl := Option.some.inj ho
                have e6 : X 6 = (.pointer (some ⟨b6, 0, none⟩)) := hF 6 (by omega) (by kernel_rfl)
                unfold wpOp
                simp only [ho]
                rw [if_pos (by rfl)]
                left
                rw [frame221]
                go_simp
                refine metK (hK.out ((.pointer (some ⟨b6, 0, none⟩))) _ (Below.refl _ _) (fun d hd => by cases hd; exact rfl)) ?_
                simp [frame221, Act.put, *]
               ·obtain rfl := Option.some.inj ho
                have e159 : X 159 = (.pointer (some ⟨b6, 0, none⟩)) := hI 159 (by kernel_rfl) (by kernel_rfl)
                have hx : Ext W17 w' := hph
                have q8 := HQ1.out w' (H17.out.trans hx)
                unfold wpOp
                simp only [ho]
                rw [if_pos (by rfl)]
                left
                rw [frame221]
                go_simp
                refine metK (hK.out ((.slice (some ⟨bW, offW, none⟩) cw.S.length cW)) _ (Below.refl _ _) (fun d hd => by cases hd; exact rfl)) ?_
                simp [frame221, Act.put, *]
               ·obtain rfl := Option.some.inj ho
                have e11 : X 11 = (.int .i64 (i : Int)) := hF 11 (by omega) (by kernel_rfl)
                unfold wpOp
                simp only [ho]
                rw [if_pos (by rfl)]
                left
                rw [frame221]
                go_simp
                refine metK (hK.out ((.int .i64 (i : Int))) _ (Below.refl _ _) (fun d hd => by cases hd; exact rfl)) ?_
                simp [frame221, Act.put, *]
               ·obtain rfl := Option.some.inj ho
                have e160 : X 160 = (.slice (some ⟨bW, offW, none⟩) cw.S.length cW) := hI 160 (by kernel_rfl) (by kernel_rfl)
                have e161 : X 161 = (.int .i64 (i : Int)) := hI 161 (by kernel_rfl) (by kernel_rfl)
                have hz0 := HIZ.out.1
                have hz1 := HIZ.out.2
                unfold wpOp
                simp only [ho]
                rw [if_pos (by rfl)]
                left
                rw [frame221]
                go_simp
                refine metK (hK.out ((.pointer (some ⟨bW, offW + i * 7, none⟩))) _ (Below.refl _ _) (fun d hd => by cases hd; exact rfl)) ?_
                simp [frame221, Act.put, *]
               ·obtain rfl := Option.some.inj ho
                have e162 : X 162 = (.pointer (some ⟨bW, offW + i * 7, none⟩)) := hI 162 (by kernel_rfl) (by kernel_rfl)
                have hx : Ext W17 w' := hph
                unfold wpOp
                simp only [ho]
                rw [if_pos (by rfl)]
                left
                rw [frame221]
                refine wp_load_mid 38 (.tmp 162) rfl bW (offW + i * 7) e162 (encV (⟨wid, .slice wa wK.length wc, wK, wwk, wsl, wqu, wba, wwm⟩ : SvcD)) dv (HRS.out w' (H17.out.trans hx)) hdv1 hdv2 Tryz.svcSize (metK (hK.out (.agg #[.int .i64 wid, .slice wa wK.length wc, .int .i64 wwk, .int .i64 wsl, .int .i64 wqu, .int .i64 wba, .int .i64 wwm]) _ (Below.refl _ _) (fun d hd => by cases hd; exact rfl)) ?_)
                rfl
               ·obtain rfl := Option.some.inj ho
                have e158 : X 158 = (.agg #[.int .i64 sid, .slice ak2 sK.length ck2, .int .i64 swork, .int .i64 sslots, .int .i64 squeue, .int .i64 sbal, .int .i64 swarm]) := hI 158 (by kernel_rfl) (by kernel_rfl)
                have e163 : X 163 = (.agg #[.int .i64 wid, .slice wa wK.length wc, .int .i64 wwk, .int .i64 wsl, .int .i64 wqu, .int .i64 wba, .int .i64 wwm]) := hI 163 (by kernel_rfl) (by kernel_rfl)
                have hx : Ext W17 w' := hph
                unfold wpOp
                simp only [ho]
                rw [if_pos (by rfl)]
                left
                rw [frame221]
                go_simp
                refine (sameS_true (⟨sid, .slice ak2 sK.length ck2, sK, swork, sslots, squeue, sbal, swarm⟩ : SvcD) (⟨wid, .slice wa wK.length wc, wK, wwk, wsl, wqu, wba, wwm⟩ : SvcD) w' (HK17.out.ext hx) ((HKW.out _ (H17.out.trans hx))) HCO2.out).mono ?_
                rintro e w9 ⟨rfl, E9⟩
                refine metK (hK.out (.bool true) w9 E9 (fun d hd => by cases hd; rfl)) ?_
                simp [frame221, Act.put, *]
               ·obtain rfl := Option.some.inj ho
                have e164 : X 164 = (.bool true) := hI 164 (by kernel_rfl) (by kernel_rfl)
                unfold wpOp
                simp only [ho]
                rw [if_pos (by rfl)]
                left
                rw [frame221]
                go_simp
                refine metK (hK.out ((.bool false)) _ (Below.refl _ _) (fun d hd => by cases hd; exact rfl)) ?_
                simp [frame221, Act.put, *]
               ·obtain rfl := Option.some.inj ho
                have e165 : X 165 = (.bool false) := hI 165 (by kernel_rfl) (by kernel_rfl)
                unfold wpOp
                simp only [ho]
                rw [if_pos (by rfl)]
                left
                rw [frame221]
                go_simp
                refine metK (hK.out ((.bool false)) _ (Below.refl _ _) (fun d hd => by cases hd; exact rfl)) ?_
                simp [frame221, Act.put, *]
               ·obtain rfl := Option.some.inj ho
                have e4 : X 4 = (.pointer (some ⟨bb, 0, none⟩)) := hF 4 (by omega) (by kernel_rfl)
                have e166 : X 166 = (.bool false) := hI 166 (by kernel_rfl) (by kernel_rfl)
                unfold wpOp
                simp only [ho]
                rw [frame221]
                simp only [e166]
                rw [if_pos (by rfl)]
                left
                go_simp
                refine metK (hK.out ((.pointer (some ⟨bb, 0, none⟩))) _ (Below.refl _ _) (fun d hd => by cases hd; exact rfl)) ?_
                simp [frame221, Act.put, *]
               ·obtain rfl := Option.some.inj ho
                have e6 : X 6 = (.pointer (some ⟨b6, 0, none⟩)) := hF 6 (by omega) (by kernel_rfl)
                have e166 : X 166 = (.bool false) := hI 166 (by kernel_rfl) (by kernel_rfl)
                unfold wpOp
                simp only [ho]
                rw [frame221]
                simp only [e166]
                rw [if_pos (by rfl)]
                left
                go_simp
                refine metK (hK.out ((.pointer (some ⟨b6, 0, none⟩))) _ (Below.refl _ _) (fun d hd => by cases hd; exact rfl)) ?_
                simp [frame221, Act.put, *]
               ·obtain rfl := Option.some.inj ho
                have e166 : X 166 = (.bool false) := hI 166 (by kernel_rfl) (by kernel_rfl)
                have e168 : X 168 = (.pointer (some ⟨b6, 0, none⟩)) := hI 168 (by kernel_rfl) (by kernel_rfl)
                have hx : Ext W17 w' := hph
                have q8 := HQ1.out w' (H17.out.trans hx)
                unfold wpOp
                simp only [ho]
                rw [frame221]
                simp only [e166]
                rw [if_pos (by rfl)]
                left
                go_simp
                refine metK (hK.out ((.slice (some ⟨bW, offW, none⟩) cw.S.length cW)) _ (Below.refl _ _) (fun d hd => by cases hd; exact rfl)) ?_
                simp [frame221, Act.put, *]
               ·obtain rfl := Option.some.inj ho
                have e11 : X 11 = (.int .i64 (i : Int)) := hF 11 (by omega) (by kernel_rfl)
                have e166 : X 166 = (.bool false) := hI 166 (by kernel_rfl) (by kernel_rfl)
                unfold wpOp
                simp only [ho]
                rw [frame221]
                simp only [e166]
                rw [if_pos (by rfl)]
                left
                go_simp
                refine metK (hK.out ((.int .i64 (i : Int))) _ (Below.refl _ _) (fun d hd => by cases hd; exact rfl)) ?_
                simp [frame221, Act.put, *]
               ·obtain rfl := Option.some.inj ho
                have e166 : X 166 = (.bool false) := hI 166 (by kernel_rfl) (by kernel_rfl)
                have e169 : X 169 = (.slice (some ⟨bW, offW, none⟩) cw.S.length cW) := hI 169 (by kernel_rfl) (by kernel_rfl)
                have e170 : X 170 = (.int .i64 (i : Int)) := hI 170 (by kernel_rfl) (by kernel_rfl)
                have hz0 := HIZ.out.1
                have hz1 := HIZ.out.2
                unfold wpOp
                simp only [ho]
                rw [frame221]
                simp only [e166]
                rw [if_pos (by rfl)]
                left
                go_simp
                refine metK (hK.out ((.pointer (some ⟨bW, offW + i * 7, none⟩))) _ (Below.refl _ _) (fun d hd => by cases hd; exact rfl)) ?_
                simp [frame221, Act.put, *]
               ·obtain rfl := Option.some.inj ho
                have e166 : X 166 = (.bool false) := hI 166 (by kernel_rfl) (by kernel_rfl)
                have e171 : X 171 = (.pointer (some ⟨bW, offW + i * 7, none⟩)) := hI 171 (by kernel_rfl) (by kernel_rfl)
                unfold wpOp
                simp only [ho]
                rw [frame221]
                simp only [e166]
                rw [if_pos (by rfl)]
                left
                go_simp
                refine metK (hK.out ((.pointer (some ⟨bW, offW + i * 7, none⟩))) _ (Below.refl _ _) (fun d hd => by cases hd; exact rfl)) ?_
                simp [frame221, Act.put, *]
               ·obtain rfl := Option.some.inj ho
                have e166 : X 166 = (.bool false) := hI 166 (by kernel_rfl) (by kernel_rfl)
                have e172 : X 172 = (.pointer (some ⟨bW, offW + i * 7, none⟩)) := hI 172 (by kernel_rfl) (by kernel_rfl)
                have hx : Ext W17 w' := hph
                have q8 := HQI.out w' (H17.out.trans hx)
                unfold wpOp
                simp only [ho]
                rw [frame221]
                simp only [e166]
                rw [if_pos (by rfl)]
                left
                go_simp
                refine metK (hK.out ((.int .i64 wid)) _ (Below.refl _ _) (fun d hd => by cases hd; exact rfl)) ?_
                simp [frame221, Act.put, *]
               ·obtain rfl := Option.some.inj ho
                have e166 : X 166 = (.bool false) := hI 166 (by kernel_rfl) (by kernel_rfl)
                have e167 : X 167 = (.pointer (some ⟨bb, 0, none⟩)) := hI 167 (by kernel_rfl) (by kernel_rfl)
                have e173 : X 173 = (.int .i64 wid) := hI 173 (by kernel_rfl) (by kernel_rfl)
                have hx : Ext W17 w' := hph
                unfold wpOp
                simp only [ho]
                rw [frame221]
                simp only [e166]
                rw [if_pos (by rfl)]
                left
                go_simp
                refine (mends_any wid w' (IA.out.ext (H17.out.trans hx)).box (ends_sl (IA.out.ext (H17.out.trans hx)).own) HND.out IA.out.few).mono ?_
                rintro e w9 ⟨v', rfl, h9, E9⟩
                rw [HT1.out] at h9
                refine metK (hK.out v' w9 E9 (fun d hd => by cases hd; exact owns_mono h9 (Nat.le_trans HBS.out hx.size))) ?_
                simp [frame221, Act.put, *]
               ·obtain rfl := Option.some.inj ho
                have e6 : X 6 = (.pointer (some ⟨b6, 0, none⟩)) := hF 6 (by omega) (by kernel_rfl)
                have e166 : X 166 = (.bool false) := hI 166 (by kernel_rfl) (by kernel_rfl)
                have hx : Ext W17 w' := hph
                unfold wpOp
                simp only [ho]
                rw [frame221]
                simp only [e166]
                rw [if_pos (by rfl)]
                left
                refine wp_load_mid 30 (.tmp 6) rfl b6 0 e6 (encC cw) cd ((HBW.out _ (H17.out.trans hx)).range) hcd1 hcd2 Tryz.confSize (metK (hK.out (.agg #[cw.sv, cw.ev, cw.rv, cw.tv, .int .i64 cw.w0, .int .i64 cw.w1, .int .i64 cw.w2, .int .i64 cw.w3, .int .i64 cw.w4, .int .i64 cw.w5, .int .i64 cw.w6, .int .i64 cw.panic, .int .i64 cw.low, .int .i64 cw.high, .int .i64 cw.wait, .int .i64 cw.hop, .int .i64 cw.life, .int .i64 cw.purse, .int .i64 cw.horizon, .int .i64 cw.sample]) _ (Below.refl _ _) (fun d hd => by cases hd; exact rfl)) ?_)
                simp [frame221, Act.put, *]
                rfl
               ·obtain rfl := Option.some.inj ho
                have e6 : X 6 = (.pointer (some ⟨b6, 0, none⟩)) := hF 6 (by omega) (by kernel_rfl)
                have e166 : X 166 = (.bool false) := hI 166 (by kernel_rfl) (by kernel_rfl)
                unfold wpOp
                simp only [ho]
                rw [frame221]
                simp only [e166]
                rw [if_pos (by rfl)]
                left
                go_simp
                refine metK (hK.out ((.pointer (some ⟨b6, 0, none⟩))) _ (Below.refl _ _) (fun d hd => by cases hd; exact rfl)) ?_
                simp [frame221, Act.put, *]
               ·obtain rfl := Option.some.inj ho
                have e166 : X 166 = (.bool false) := hI 166 (by kernel_rfl) (by kernel_rfl)
                have e176 : X 176 = (.pointer (some ⟨b6, 0, none⟩)) := hI 176 (by kernel_rfl) (by kernel_rfl)
                have hx : Ext W17 w' := hph
                have q8 := HQ1.out w' (H17.out.trans hx)
                unfold wpOp
                simp only [ho]
                rw [frame221]
                simp only [e166]
                rw [if_pos (by rfl)]
                left
                go_simp
                refine metK (hK.out ((.slice (some ⟨bW, offW, none⟩) cw.S.length cW)) _ (Below.refl _ _) (fun d hd => by cases hd; exact rfl)) ?_
                simp [frame221, Act.put, *]
               ·obtain rfl := Option.some.inj ho
                have e11 : X 11 = (.int .i64 (i : Int)) := hF 11 (by omega) (by kernel_rfl)
                have e166 : X 166 = (.bool false) := hI 166 (by kernel_rfl) (by kernel_rfl)
                unfold wpOp
                simp only [ho]
                rw [frame221]
                simp only [e166]
                rw [if_pos (by rfl)]
                left
                go_simp
                refine metK (hK.out ((.int .i64 (i : Int))) _ (Below.refl _ _) (fun d hd => by cases hd; exact rfl)) ?_
                simp [frame221, Act.put, *]
               ·obtain rfl := Option.some.inj ho
                have e166 : X 166 = (.bool false) := hI 166 (by kernel_rfl) (by kernel_rfl)
                have e177 : X 177 = (.slice (some ⟨bW, offW, none⟩) cw.S.length cW) := hI 177 (by kernel_rfl) (by kernel_rfl)
                have e178 : X 178 = (.int .i64 (i : Int)) := hI 178 (by kernel_rfl) (by kernel_rfl)
                have hz0 := HIZ.out.1
                have hz1 := HIZ.out.2
                unfold wpOp
                simp only [ho]
                rw [frame221]
                simp only [e166]
                rw [if_pos (by rfl)]
                left
                go_simp
                refine metK (hK.out ((.pointer (some ⟨bW, offW + i * 7, none⟩))) _ (Below.refl _ _) (fun d hd => by cases hd; exact rfl)) ?_
                simp [frame221, Act.put, *]
               ·obtain rfl := Option.some.inj ho
                have e166 : X 166 = (.bool false) := hI 166 (by kernel_rfl) (by kernel_rfl)
                have e179 : X 179 = (.pointer (some ⟨bW, offW + i * 7, none⟩)) := hI 179 (by kernel_rfl) (by kernel_rfl)
                unfold wpOp
                simp only [ho]
                rw [frame221]
                simp only [e166]
                rw [if_pos (by rfl)]
                left
                go_simp
                refine metK (hK.out ((.pointer (some ⟨bW, offW + i * 7, none⟩))) _ (Below.refl _ _) (fun d hd => by cases hd; exact rfl)) ?_
                simp [frame221, Act.put, *]
               ·obtain rfl := Option.some.inj ho
                have e166 : X 166 = (.bool false) := hI 166 (by kernel_rfl) (by kernel_rfl)
                have e180 : X 180 = (.pointer (some ⟨bW, offW + i * 7, none⟩)) := hI 180 (by kernel_rfl) (by kernel_rfl)
                have hx : Ext W17 w' := hph
                have q8 := HQI.out w' (H17.out.trans hx)
                unfold wpOp
                simp only [ho]
                rw [frame221]
                simp only [e166]
                rw [if_pos (by rfl)]
                left
                go_simp
                refine metK (hK.out ((.int .i64 wid)) _ (Below.refl _ _) (fun d hd => by cases hd; exact rfl)) ?_
                simp [frame221, Act.put, *]
               ·obtain rfl := Option.some.inj ho
                have e166 : X 166 = (.bool false) := hI 166 (by kernel_rfl) (by kernel_rfl)
                have e175 : X 175 = (.agg #[cw.sv, cw.ev, cw.rv, cw.tv, .int .i64 cw.w0, .int .i64 cw.w1, .int .i64 cw.w2, .int .i64 cw.w3, .int .i64 cw.w4, .int .i64 cw.w5, .int .i64 cw.w6, .int .i64 cw.panic, .int .i64 cw.low, .int .i64 cw.high, .int .i64 cw.wait, .int .i64 cw.hop, .int .i64 cw.life, .int .i64 cw.purse, .int .i64 cw.horizon, .int .i64 cw.sample]) := hI 175 (by kernel_rfl) (by kernel_rfl)
                have e181 : X 181 = (.int .i64 wid) := hI 181 (by kernel_rfl) (by kernel_rfl)
                have hx : Ext W17 w' := hph
                unfold wpOp
                simp only [ho]
                rw [frame221]
                simp only [e166]
                rw [if_pos (by rfl)]
                left
                go_simp
                refine (ends16_any cw wid w' (HOW.out w' (H17.out.trans hx)).ok.2.2.1 HL40.out).mono ?_
                rintro e w9 ⟨v', rfl, h9, E9⟩
                rw [HT2.out] at h9
                refine metK (hK.out v' w9 E9 (fun d hd => by cases hd; exact owns_mono h9 (Nat.le_trans HBS.out hx.size))) ?_
                simp [frame221, Act.put, *]
               ·obtain rfl := Option.some.inj ho
                have e166 : X 166 = (.bool false) := hI 166 (by kernel_rfl) (by kernel_rfl)
                have y174 := hI 174 (by kernel_rfl) (by kernel_rfl)
                have y182 := hI 182 (by kernel_rfl) (by kernel_rfl)
                have hx : Ext W17 w' := hph
                obtain ⟨a15, c15, hv15⟩ := owns_shape y174
                obtain ⟨a16, c16, hv16⟩ := owns_shape y182
                have e174 := hv15
                have e182 := hv16
                rw [hv15] at y174
                rw [hv16] at y182
                unfold wpOp
                simp only [ho]
                rw [frame221]
                simp only [e166]
                rw [if_pos (by rfl)]
                left
                go_simp
                refine (sameE_true T _ _ w' (Sl.of_own' (enc := encE) encE_len y174) (Sl.of_own' (enc := encE) encE_len y182)).mono ?_
                rintro e w9 ⟨rfl, E9⟩
                refine metK (hK.out (.bool true) w9 E9 (fun d hd => by cases hd; rfl)) ?_
                simp [frame221, Act.put, *]
               ·obtain rfl := Option.some.inj ho
                have e166 : X 166 = (.bool false) := hI 166 (by kernel_rfl) (by kernel_rfl)
                have e183 : X 183 = (.bool true) := hI 183 (by kernel_rfl) (by kernel_rfl)
                unfold wpOp
                simp only [ho]
                rw [frame221]
                simp only [e166]
                rw [if_pos (by rfl)]
                left
                go_simp
                refine metK (hK.out ((.bool false)) _ (Below.refl _ _) (fun d hd => by cases hd; exact rfl)) ?_
                simp [frame221, Act.put, *]
               ·obtain rfl := Option.some.inj ho
                have e166 : X 166 = (.bool false) := hI 166 (by kernel_rfl) (by kernel_rfl)
                have e184 : X 184 = (.bool false) := hI 184 (by kernel_rfl) (by kernel_rfl)
                unfold wpOp
                simp only [ho]
                rw [if_pos (by rfl)]
                left
                rw [frame221]
                go_simp
                refine metK (hK.out ((.bool false)) _ (Below.refl _ _) (fun d hd => by cases hd; exact rfl)) ?_
                simp [frame221, Act.put, *]
              ·intro i o ho hmi vs X w' hqi hql hph hX hI hF K hK
               rcases vs with _
               ·simp at hql <;> omega
              ·intro vs X w' hlen hph hX hI
               have e158 : X 158 = (.agg #[.int .i64 sid, .slice ak2 sK.length ck2, .int .i64 swork, .int .i64 sslots, .int .i64 squeue, .int .i64 sbal, .int .i64 swarm]) := hI 158 (by omega) (by kernel_rfl) (by kernel_rfl)
               have e159 : X 159 = (.pointer (some ⟨b6, 0, none⟩)) := hI 159 (by omega) (by kernel_rfl) (by kernel_rfl)
               have e160 : X 160 = (.slice (some ⟨bW, offW, none⟩) cw.S.length cW) := hI 160 (by omega) (by kernel_rfl) (by kernel_rfl)
               have e161 : X 161 = (.int .i64 (i : Int)) := hI 161 (by omega) (by kernel_rfl) (by kernel_rfl)
               have e162 : X 162 = (.pointer (some ⟨bW, offW + i * 7, none⟩)) := hI 162 (by omega) (by kernel_rfl) (by kernel_rfl)
               have e163 : X 163 = (.agg #[.int .i64 wid, .slice wa wK.length wc, .int .i64 wwk, .int .i64 wsl, .int .i64 wqu, .int .i64 wba, .int .i64 wwm]) := hI 163 (by omega) (by kernel_rfl) (by kernel_rfl)
               have e164 : X 164 = (.bool true) := hI 164 (by omega) (by kernel_rfl) (by kernel_rfl)
               have e165 : X 165 = (.bool false) := hI 165 (by omega) (by kernel_rfl) (by kernel_rfl)
               have e166 : X 166 = (.bool false) := hI 166 (by omega) (by kernel_rfl) (by kernel_rfl)
               have e167 : X 167 = (.pointer (some ⟨bb, 0, none⟩)) := hI 167 (by omega) (by kernel_rfl) (by kernel_rfl)
               have e168 : X 168 = (.pointer (some ⟨b6, 0, none⟩)) := hI 168 (by omega) (by kernel_rfl) (by kernel_rfl)
               have e169 : X 169 = (.slice (some ⟨bW, offW, none⟩) cw.S.length cW) := hI 169 (by omega) (by kernel_rfl) (by kernel_rfl)
               have e170 : X 170 = (.int .i64 (i : Int)) := hI 170 (by omega) (by kernel_rfl) (by kernel_rfl)
               have e171 : X 171 = (.pointer (some ⟨bW, offW + i * 7, none⟩)) := hI 171 (by omega) (by kernel_rfl) (by kernel_rfl)
               have e172 : X 172 = (.pointer (some ⟨bW, offW + i * 7, none⟩)) := hI 172 (by omega) (by kernel_rfl) (by kernel_rfl)
               have e173 : X 173 = (.int .i64 wid) := hI 173 (by omega) (by kernel_rfl) (by kernel_rfl)
               have y174 := hI 174 (by omega) (by kernel_rfl) (by kernel_rfl)
               have e175 : X 175 = (.agg #[cw.sv, cw.ev, cw.rv, cw.tv, .int .i64 cw.w0, .int .i64 cw.w1, .int .i64 cw.w2, .int .i64 cw.w3, .int .i64 cw.w4, .int .i64 cw.w5, .int .i64 cw.w6, .int .i64 cw.panic, .int .i64 cw.low, .int .i64 cw.high, .int .i64 cw.wait, .int .i64 cw.hop, .int .i64 cw.life, .int .i64 cw.purse, .int .i64 cw.horizon, .int .i64 cw.sample]) := hI 175 (by omega) (by kernel_rfl) (by kernel_rfl)
               have e176 : X 176 = (.pointer (some ⟨b6, 0, none⟩)) := hI 176 (by omega) (by kernel_rfl) (by kernel_rfl)
               have e177 : X 177 = (.slice (some ⟨bW, offW, none⟩) cw.S.length cW) := hI 177 (by omega) (by kernel_rfl) (by kernel_rfl)
               have e178 : X 178 = (.int .i64 (i : Int)) := hI 178 (by omega) (by kernel_rfl) (by kernel_rfl)
               have e179 : X 179 = (.pointer (some ⟨bW, offW + i * 7, none⟩)) := hI 179 (by omega) (by kernel_rfl) (by kernel_rfl)
               have e180 : X 180 = (.pointer (some ⟨bW, offW + i * 7, none⟩)) := hI 180 (by omega) (by kernel_rfl) (by kernel_rfl)
               have e181 : X 181 = (.int .i64 wid) := hI 181 (by omega) (by kernel_rfl) (by kernel_rfl)
               have y182 := hI 182 (by omega) (by kernel_rfl) (by kernel_rfl)
               have e183 : X 183 = (.bool true) := hI 183 (by omega) (by kernel_rfl) (by kernel_rfl)
               have e184 : X 184 = (.bool false) := hI 184 (by omega) (by kernel_rfl) (by kernel_rfl)
               have e185 : X 185 = (.bool false) := hI 185 (by omega) (by kernel_rfl) (by kernel_rfl)
               rcases vs with _ | ⟨vz, vs⟩
               rotate_left
               ·simp at hlen
               clear hX hI hlen
               simp only [overF, List.foldl_cons, List.foldl_nil, List.setIfInBounds_toArray, List.set_cons_succ, List.set_cons_zero, e158, e159, e160, e161, e162, e163, e164, e165, e166, e167, e168, e169, e170, e171, e172, e173, e175, e176, e177, e178, e179, e180, e181, e183, e184, e185]
               have hx9 : Ext W17 w' := hph
               clear hph e158 e159 e160 e161 e162 e163 e164 e165 e166 e167 e168 e169 e170 e171 e172 e173 e175 e176 e177 e178 e179 e180 e181 e183 e184 e185 y174 y182
               generalize X 174 = x174 at *
               generalize X 182 = x182 at *
               have HZ := hide (H17.out.trans hx9)
               have hwi := HWI.out
               clear hx9 HWI
               go_wp2
               go_roundw
               case rel => exact ⟨i + 1, by omega, by first | rfl | simp, HZ.out⟩
               case measure => simp [intOf] <;> omega
        ·obtain rfl : i = cw.S.length := by omega
         have q0 := HQ1.out _ HX.out
         go_upto_region 40 with (fail)
         clear q0
         obtain ⟨m, hml, hlast⟩ := gen_last HDG.out
         have hm : m < d.R.length := by omega
         have hP := hlast hm
         have sa := IA.out.ext HX.out
         have hro := sa.own.r
         obtain ⟨aR, cR, hrv⟩ := owns_shape hro
         have hq3 : ∀ X, Ext wv X → X.cell? ⟨bb, 3, none⟩ = some d.rv := fun X hX => (sa.box.ext hX).cell 3 _ rfl
         rw [hrv] at hro hq3
         obtain ⟨gr, offR, rfl, hgr, hrc⟩ := rules_at (Sl.of_own' encR_len hro) m hm
         have hpo := (sa.own.rr _ (List.getElem_mem hm)).2.1
         obtain ⟨aP, cP, hpv⟩ := owns_shape hpo
         have hpl : d.R[m].P.length = 1 := by rw [hP]; rfl
         have hrc3 : wv.cell? ⟨gr, offR + m * 19 + 3, none⟩ = some d.R[m].pv := hrc 3 _ rfl
         rw [hpl] at hpv
         rw [hpv, hpl, hP] at hpo
         rw [hpv] at hrc3
         have hps : Sl encP 2 wv (.slice aP 1 cP) [((1 : Int), (1 : Int))] := Sl.of_own' (enc := encP) encP_len' hpo
         obtain ⟨gp, offP, rfl, hc1⟩ : ∃ gp offP, aP = some ⟨gp, offP, none⟩ ∧ wv.cell? ⟨gp, offP, none⟩ = some (.int .i64 1) := by
          obtain ⟨_, a', cap', hv, _, hc⟩ := hps
          cases hv
          obtain ⟨b, off, ha, hb, hc⟩ := hc 0 (1, 1) rfl
          exact ⟨b, off, ha, by simpa using hc 0 _ rfl⟩
         have hwr := (HOW.out _ HX.out).r
         obtain ⟨aw, cRw, hwv⟩ := owns_shape hwr
         rw [HRL.out] at hwv
         have HQW := hide (show ∀ X, Ext wv X → X.cell? ⟨b6, 2, none⟩ = some (.slice aw d.R.length cRw) from fun X hX => by
          rw [← hwv]
          exact (HBW.out X (HX.out.trans hX)).cell 2 _ rfl)
         have HQR := hide hq3
         have HQP := hide (show ∀ X, Ext wv X → X.cell? ⟨gr, offR + m * 19 + 3, none⟩ = some (.slice (some ⟨gp, offP, none⟩) 1 cP) from fun X hX => (hX.cell (p := ⟨gr, offR + m * 19 + 3, none⟩) (World.block_lt_of_cell? wv _ hrc3)).trans hrc3)
         have HQV := hide (show ∀ X, Ext wv X → X.cell? ⟨gp, offP, none⟩ = some (.int .i64 1) from fun X hX => (hX.cell (p := ⟨gp, offP, none⟩) (World.block_lt_of_cell? wv _ hc1)).trans hc1)
         have h63 := owns_len hro
         have HWM := hide (show IntKind.i64.wrap ((d.R.length : Int) - 1) = (m : Int) by rw [IntKind.wrap_i64]; omega)
         have HM0 := hide (show (0 : Int) ≤ m from by omega)
         have HM1 := hide (show (m : Int) < d.R.length from by omega)
         have HMX := hide (show max (m : Int) 0 = m from by omega)
         have HX7 := hide (HX6.out.trans HX.out)
         have HMM7 := hide (show ∀ X, Ext wv X → MaxV X from fun X hX => HMM.out X (HX.out.trans hX))
         clear hml hlast hm hP sa hro hrv hq3 hgr hrc hpo hpv hpl hrc3 hps hc1 hwr hwv h63 HMM
         have HMM := HMM7
         clear HMM7
         generalize wv = W7 at *
         refine wp_region_rw 221 [] [2, 186, 187, 188, 189, 190, 191, 192, 193, 194, 195, 196, 197, 198, 199, 200, 201, 202, 203, 204, 205, 206, 207, 208, 209, 210, 211, 212, 213, 214, 215, 216, 217, 218, 219, 220] (fun _ w' => Ext W7 w') (fun (t : Nat) (wI : World) (v : Value) => match t with | 2 => v = (.bool true) | 186 => v = (.pointer (some ⟨bb, 0, none⟩)) | 187 => v = (.pointer (some ⟨bb, 0, none⟩)) | 188 => v = (.pointer (some ⟨bb, 1, none⟩)) | 189 => v = (.pointer (some ⟨bb, 3, none⟩)) | 190 => v = (.slice (some ⟨gr, offR, none⟩) d.R.length cR) | 191 => v = (.int .i64 d.R.length) | 192 => v = (.pointer (some ⟨b6, 2, none⟩)) | 193 => v = (.slice aw d.R.length cRw) | 194 => v = (.int .i64 d.R.length) | 195 => v = (.bool true) | 196 => v = (.bool true) | 197 => v = (.pointer (some ⟨bb, 0, none⟩)) | 198 => v = (.pointer (some ⟨bb, 0, none⟩)) | 199 => v = (.pointer (some ⟨bb, 1, none⟩)) | 200 => v = (.pointer (some ⟨bb, 3, none⟩)) | 201 => v = (.slice (some ⟨gr, offR, none⟩) d.R.length cR) | 202 => v = (.pointer (some ⟨bb, 0, none⟩)) | 203 => v = (.pointer (some ⟨bb, 0, none⟩)) | 204 => v = (.pointer (some ⟨bb, 1, none⟩)) | 205 => v = (.pointer (some ⟨bb, 3, none⟩)) | 206 => v = (.slice (some ⟨gr, offR, none⟩) d.R.length cR) | 207 => v = (.int .i64 d.R.length) | 208 => v = (.int .i64 (m : Int)) | 209 => v = (.int .i64 (m : Int)) | 210 => v = (.pointer (some ⟨gr, offR + m * 19, none⟩)) | 211 => v = (.pointer (some ⟨gr, offR + m * 19 + 3, none⟩)) | 212 => v = (.slice (some ⟨gp, offP, none⟩) 1 cP) | 213 => v = (.pointer (some ⟨gp, offP, none⟩)) | 214 => v = (.pointer (some ⟨gp, offP, none⟩)) | 215 => v = (.int .i64 1) | 216 => v = (.bool true) | 217 => v = (.bool true) | 218 => v = (.bool true) | 219 => v = (.bool true) | 220 => v = (.bool true) | _ => True) (fun w' w'' => Ext w' w'') (by kernel_rfl) rfl (by kernel_rfl) (by kernel_rfl) (by kernel_rfl) (by kernel_rfl) ?_ ?_ ?_ ?_ ?_ ?_ ?_
         ·intro w' w'' h
          exact h
         ·intro t w' w'' v hR hv
          exact hv
         ·intro vs w' w'' h e
          exact Ext.trans (show Ext _ w' from h) e
         ·exact (Below.refl _ _).drew
         ·intro i o ho hmi vs X w' hpk hph hX hI hF K hK
          have hin : i < 36 := (Array.getElem?_eq_some_iff.1 ho).1
          have hi : i = 0 ∨ i = 1 ∨ i = 2 ∨ i = 3 ∨ i = 4 ∨ i = 5 ∨ i = 6 ∨ i = 7 ∨ i = 8 ∨ i = 9 ∨ i = 10 ∨ i = 11 ∨ i = 12 ∨ i = 13 ∨ i = 14 ∨ i = 15 ∨ i = 16 ∨ i = 17 ∨ i = 18 ∨ i = 19 ∨ i = 20 ∨ i = 21 ∨ i = 22 ∨ i = 23 ∨ i = 24 ∨ i = 25 ∨ i = 26 ∨ i = 27 ∨ i = 28 ∨ i = 29 ∨ i = 30 ∨ i = 31 ∨ i = 32 ∨ i = 33 ∨ i = 34 ∨ i = 35 := by omega
          rcases hi with rfl | rfl | rfl | rfl | rfl | rfl | rfl | rfl | rfl | rfl | rfl | rfl | rfl | rfl | rfl | rfl | rfl | rfl | rfl | rfl | rfl | rfl | rfl | rfl | rfl | rfl | rfl | rfl | rfl | rfl | rfl | rfl | rfl | rfl | rfl | rfl
          ·obtain rfl := Option.some.inj ho
           have e4 : X 4 = (.pointer (some ⟨bb, 0, none⟩)) := hF 4 (by omega) (by kernel_rfl)
           unfold wpOp
           simp only [ho]
           rw [if_pos (by rfl)]
           left
           rw [frame221]
           go_simp
           refine metK (hK.out ((.pointer (some ⟨bb, 0, none⟩))) _ (Below.refl _ _) (fun d hd => by cases hd; exact rfl)) ?_
           simp [frame221, Act.put, *]
          ·obtain rfl := Option.some.inj ho
           have e186 : X 186 = (.pointer (some ⟨bb, 0, none⟩)) := hI 186 (by kernel_rfl) (by kernel_rfl)
           unfold wpOp
           simp only [ho]
           rw [if_pos (by rfl)]
           left
           rw [frame221]
           go_simp
           refine metK (hK.out ((.pointer (some ⟨bb, 0, none⟩))) _ (Below.refl _ _) (fun d hd => by cases hd; exact rfl)) ?_
           simp [frame221, Act.put, *]
          ·obtain rfl := Option.some.inj ho
           have e187 : X 187 = (.pointer (some ⟨bb, 0, none⟩)) := hI 187 (by kernel_rfl) (by kernel_rfl)
           unfold wpOp
           simp only [ho]
           rw [if_pos (by rfl)]
           left
           rw [frame221]
           go_simp
           refine metK (hK.out ((.pointer (some ⟨bb, 1, none⟩))) _ (Below.refl _ _) (fun d hd => by cases hd; exact rfl)) ?_
           simp [frame221, Act.put, *]
          ·obtain rfl := Option.some.inj ho
           have e188 : X 188 = (.pointer (some ⟨bb, 1, none⟩)) := hI 188 (by kernel_rfl) (by kernel_rfl)
           unfold wpOp
           simp only [ho]
           rw [if_pos (by rfl)]
           left
           rw [frame221]
           go_simp
           refine metK (hK.out ((.pointer (some ⟨bb, 3, none⟩))) _ (Below.refl _ _) (fun d hd => by cases hd; exact rfl)) ?_
           simp [frame221, Act.put, *]
          ·obtain rfl := Option.some.inj ho
           have e189 : X 189 = (.pointer (some ⟨bb, 3, none⟩)) := hI 189 (by kernel_rfl) (by kernel_rfl)
           have hx : Ext W7 w' := hph
           have q8 := HQR.out w' hx
           unfold wpOp
           simp only [ho]
           rw [if_pos (by rfl)]
           left
           rw [frame221]
           go_simp
           refine metK (hK.out ((.slice (some ⟨gr, offR, none⟩) d.R.length cR)) _ (Below.refl _ _) (fun d hd => by cases hd; exact rfl)) ?_
           simp [frame221, Act.put, *]
          ·obtain rfl := Option.some.inj ho
           have e190 : X 190 = (.slice (some ⟨gr, offR, none⟩) d.R.length cR) := hI 190 (by kernel_rfl) (by kernel_rfl)
           unfold wpOp
           simp only [ho]
           rw [if_pos (by rfl)]
           left
           rw [frame221]
           go_simp
           refine metK (hK.out ((.int .i64 d.R.length)) _ (Below.refl _ _) (fun d hd => by cases hd; exact rfl)) ?_
           simp [frame221, Act.put, *]
          ·obtain rfl := Option.some.inj ho
           have e6 : X 6 = (.pointer (some ⟨b6, 0, none⟩)) := hF 6 (by omega) (by kernel_rfl)
           unfold wpOp
           simp only [ho]
           rw [if_pos (by rfl)]
           left
           rw [frame221]
           go_simp
           refine metK (hK.out ((.pointer (some ⟨b6, 2, none⟩))) _ (Below.refl _ _) (fun d hd => by cases hd; exact rfl)) ?_
           simp [frame221, Act.put, *]
          ·obtain rfl := Option.some.inj ho
           have e192 : X 192 = (.pointer (some ⟨b6, 2, none⟩)) := hI 192 (by kernel_rfl) (by kernel_rfl)
           have hx : Ext W7 w' := hph
           have q8 := HQW.out w' hx
           unfold wpOp
           simp only [ho]
           rw [if_pos (by rfl)]
           left
           rw [frame221]
           go_simp
           refine metK (hK.out ((.slice aw d.R.length cRw)) _ (Below.refl _ _) (fun d hd => by cases hd; exact rfl)) ?_
           simp [frame221, Act.put, *]
          ·obtain rfl := Option.some.inj ho
           have e193 : X 193 = (.slice aw d.R.length cRw) := hI 193 (by kernel_rfl) (by kernel_rfl)
           unfold wpOp
           simp only [ho]
           rw [if_pos (by rfl)]
           left
           rw [frame221]
           go_simp
           refine metK (hK.out ((.int .i64 d.R.length)) _ (Below.refl _ _) (fun d hd => by cases hd; exact rfl)) ?_
           simp [frame221, Act.put, *]
          ·obtain rfl := Option.some.inj ho
           have e191 : X 191 = (.int .i64 d.R.length) := hI 191 (by kernel_rfl) (by kernel_rfl)
           have e194 : X 194 = (.int .i64 d.R.length) := hI 194 (by kernel_rfl) (by kernel_rfl)
           unfold wpOp
           simp only [ho]
           rw [if_pos (by rfl)]
           left
           rw [frame221]
           go_simp
           refine metK (hK.out ((.bool true)) _ (Below.refl _ _) (fun d hd => by cases hd; exact rfl)) ?_
           simp [frame221, Act.put, *]
          ·obtain rfl := Option.some.inj ho
           have e195 : X 195 = (.bool true) := hI 195 (by kernel_rfl) (by kernel_rfl)
           unfold wpOp
           simp only [ho]
           rw [if_pos (by rfl)]
           left
           rw [frame221]
           go_simp
           refine metK (hK.out ((.bool true)) _ (Below.refl _ _) (fun d hd => by cases hd; exact rfl)) ?_
           simp [frame221, Act.put, *]
          ·obtain rfl := Option.some.inj ho
           have e4 : X 4 = (.pointer (some ⟨bb, 0, none⟩)) := hF 4 (by omega) (by kernel_rfl)
           have e196 : X 196 = (.bool true) := hI 196 (by kernel_rfl) (by kernel_rfl)
           unfold wpOp
           simp only [ho]
           rw [frame221]
           simp only [e196]
           rw [if_pos (by rfl)]
           left
           go_simp
           refine metK (hK.out ((.pointer (some ⟨bb, 0, none⟩))) _ (Below.refl _ _) (fun d hd => by cases hd; exact rfl)) ?_
           simp [frame221, Act.put, *]
          ·obtain rfl := Option.some.inj ho
           have e196 : X 196 = (.bool true) := hI 196 (by kernel_rfl) (by kernel_rfl)
           have e197 : X 197 = (.pointer (some ⟨bb, 0, none⟩)) := hI 197 (by kernel_rfl) (by kernel_rfl)
           unfold wpOp
           simp only [ho]
           rw [frame221]
           simp only [e196]
           rw [if_pos (by rfl)]
           left
           go_simp
           refine metK (hK.out ((.pointer (some ⟨bb, 0, none⟩))) _ (Below.refl _ _) (fun d hd => by cases hd; exact rfl)) ?_
           simp [frame221, Act.put, *]
          ·obtain rfl := Option.some.inj ho
           have e196 : X 196 = (.bool true) := hI 196 (by kernel_rfl) (by kernel_rfl)
           have e198 : X 198 = (.pointer (some ⟨bb, 0, none⟩)) := hI 198 (by kernel_rfl) (by kernel_rfl)
           unfold wpOp
           simp only [ho]
           rw [frame221]
           simp only [e196]
           rw [if_pos (by rfl)]
           left
           go_simp
           refine metK (hK.out ((.pointer (some ⟨bb, 1, none⟩))) _ (Below.refl _ _) (fun d hd => by cases hd; exact rfl)) ?_
           simp [frame221, Act.put, *]
          ·obtain rfl := Option.some.inj ho
           have e196 : X 196 = (.bool true) := hI 196 (by kernel_rfl) (by kernel_rfl)
           have e199 : X 199 = (.pointer (some ⟨bb, 1, none⟩)) := hI 199 (by kernel_rfl) (by kernel_rfl)
           unfold wpOp
           simp only [ho]
           rw [frame221]
           simp only [e196]
           rw [if_pos (by rfl)]
           left
           go_simp
           refine metK (hK.out ((.pointer (some ⟨bb, 3, none⟩))) _ (Below.refl _ _) (fun d hd => by cases hd; exact rfl)) ?_
           simp [frame221, Act.put, *]
          ·obtain rfl := Option.some.inj ho
           have e196 : X 196 = (.bool true) := hI 196 (by kernel_rfl) (by kernel_rfl)
           have e200 : X 200 = (.pointer (some ⟨bb, 3, none⟩)) := hI 200 (by kernel_rfl) (by kernel_rfl)
           have hx : Ext W7 w' := hph
           have q8 := HQR.out w' hx
           unfold wpOp
           simp only [ho]
           rw [frame221]
           simp only [e196]
           rw [if_pos (by rfl)]
           left
           go_simp
           refine metK (hK.out ((.slice (some ⟨gr, offR, none⟩) d.R.length cR)) _ (Below.refl _ _) (fun d hd => by cases hd; exact rfl)) ?_
           simp [frame221, Act.put, *]
          ·obtain rfl := Option.some.inj ho
           have e4 : X 4 = (.pointer (some ⟨bb, 0, none⟩)) := hF 4 (by omega) (by kernel_rfl)
           have e196 : X 196 = (.bool true) := hI 196 (by kernel_rfl) (by kernel_rfl)
           unfold wpOp
           simp only [ho]
           rw [frame221]
           simp only [e196]
           rw [if_pos (by rfl)]
           left
           go_simp
           refine metK (hK.out ((.pointer (some ⟨bb, 0, none⟩))) _ (Below.refl _ _) (fun d hd => by cases hd; exact rfl)) ?_
           simp [frame221, Act.put, *]
          ·obtain rfl := Option.some.inj ho
           have e196 : X 196 = (.bool true) := hI 196 (by kernel_rfl) (by kernel_rfl)
           have e202 : X 202 = (.pointer (some ⟨bb, 0, none⟩)) := hI 202 (by kernel_rfl) (by kernel_rfl)
           unfold wpOp
           simp only [ho]
           rw [frame221]
           simp only [e196]
           rw [if_pos (by rfl)]
           left
           go_simp
           refine metK (hK.out ((.pointer (some ⟨bb, 0, none⟩))) _ (Below.refl _ _) (fun d hd => by cases hd; exact rfl)) ?_
           simp [frame221, Act.put, *]
          ·obtain rfl := Option.some.inj ho
           have e196 : X 196 = (.bool true) := hI 196 (by kernel_rfl) (by kernel_rfl)
           have e203 : X 203 = (.pointer (some ⟨bb, 0, none⟩)) := hI 203 (by kernel_rfl) (by kernel_rfl)
           unfold wpOp
           simp only [ho]
           rw [frame221]
           simp only [e196]
           rw [if_pos (by rfl)]
           left
           go_simp
           refine metK (hK.out ((.pointer (some ⟨bb, 1, none⟩))) _ (Below.refl _ _) (fun d hd => by cases hd; exact rfl)) ?_
           simp [frame221, Act.put, *]
          ·obtain rfl := Option.some.inj ho
           have e196 : X 196 = (.bool true) := hI 196 (by kernel_rfl) (by kernel_rfl)
           have e204 : X 204 = (.pointer (some ⟨bb, 1, none⟩)) := hI 204 (by kernel_rfl) (by kernel_rfl)
           unfold wpOp
           simp only [ho]
           rw [frame221]
           simp only [e196]
           rw [if_pos (by rfl)]
           left
           go_simp
           refine metK (hK.out ((.pointer (some ⟨bb, 3, none⟩))) _ (Below.refl _ _) (fun d hd => by cases hd; exact rfl)) ?_
           simp [frame221, Act.put, *]
          ·obtain rfl := Option.some.inj ho
           have e196 : X 196 = (.bool true) := hI 196 (by kernel_rfl) (by kernel_rfl)
           have e205 : X 205 = (.pointer (some ⟨bb, 3, none⟩)) := hI 205 (by kernel_rfl) (by kernel_rfl)
           have hx : Ext W7 w' := hph
           have q8 := HQR.out w' hx
           unfold wpOp
           simp only [ho]
           rw [frame221]
           simp only [e196]
           rw [if_pos (by rfl)]
           left
           go_simp
           refine metK (hK.out ((.slice (some ⟨gr, offR, none⟩) d.R.length cR)) _ (Below.refl _ _) (fun d hd => by cases hd; exact rfl)) ?_
           simp [frame221, Act.put, *]
          ·obtain rfl := Option.some.inj ho
           have e196 : X 196 = (.bool true) := hI 196 (by kernel_rfl) (by kernel_rfl)
           have e206 : X 206 = (.slice (some ⟨gr, offR, none⟩) d.R.length cR) := hI 206 (by kernel_rfl) (by kernel_rfl)
           unfold wpOp
           simp only [ho]
           rw [frame221]
           simp only [e196]
           rw [if_pos (by rfl)]
           left
           go_simp
           refine metK (hK.out ((.int .i64 d.R.length)) _ (Below.refl _ _) (fun d hd => by cases hd; exact rfl)) ?_
           simp [frame221, Act.put, *]
          ·obtain rfl := Option.some.inj ho
           have e196 : X 196 = (.bool true) := hI 196 (by kernel_rfl) (by kernel_rfl)
           have e207 : X 207 = (.int .i64 d.R.length) := hI 207 (by kernel_rfl) (by kernel_rfl)
           have hwm := HWM.out
           unfold wpOp
           simp only [ho]
           rw [frame221]
           simp only [e196]
           rw [if_pos (by rfl)]
           left
           go_simp
           refine metK (hK.out ((.int .i64 (m : Int))) _ (Below.refl _ _) (fun d hd => by cases hd; exact rfl)) ?_
           simp [frame221, Act.put, *]
          ·obtain rfl := Option.some.inj ho
           have e196 : X 196 = (.bool true) := hI 196 (by kernel_rfl) (by kernel_rfl)
           have e208 : X 208 = (.int .i64 (m : Int)) := hI 208 (by kernel_rfl) (by kernel_rfl)
           have hm0 := HM0.out
           have hmx := HMX.out
           unfold wpOp
           simp only [ho]
           rw [frame221]
           simp only [e196]
           rw [if_pos (by rfl)]
           left
           go_simp
           refine metK (hK.out ((.int .i64 (m : Int))) _ (Below.refl _ _) (fun d hd => by cases hd; exact rfl)) ?_
           simp [frame221, Act.put, *]
          ·obtain rfl := Option.some.inj ho
           have e196 : X 196 = (.bool true) := hI 196 (by kernel_rfl) (by kernel_rfl)
           have e201 : X 201 = (.slice (some ⟨gr, offR, none⟩) d.R.length cR) := hI 201 (by kernel_rfl) (by kernel_rfl)
           have e209 : X 209 = (.int .i64 (m : Int)) := hI 209 (by kernel_rfl) (by kernel_rfl)
           have hm0 := HM0.out
           have hm1 := HM1.out
           unfold wpOp
           simp only [ho]
           rw [frame221]
           simp only [e196]
           rw [if_pos (by rfl)]
           left
           go_simp
           refine metK (hK.out ((.pointer (some ⟨gr, offR + m * 19, none⟩))) _ (Below.refl _ _) (fun d hd => by cases hd; exact rfl)) ?_
           simp [frame221, Act.put, *]
          ·obtain rfl := Option.some.inj ho
           have e196 : X 196 = (.bool true) := hI 196 (by kernel_rfl) (by kernel_rfl)
           have e210 : X 210 = (.pointer (some ⟨gr, offR + m * 19, none⟩)) := hI 210 (by kernel_rfl) (by kernel_rfl)
           unfold wpOp
           simp only [ho]
           rw [frame221]
           simp only [e196]
           rw [if_pos (by rfl)]
           left
           go_simp
           refine metK (hK.out ((.pointer (some ⟨gr, offR + m * 19 + 3, none⟩))) _ (Below.refl _ _) (fun d hd => by cases hd; exact rfl)) ?_
           simp [frame221, Act.put, *]
          ·obtain rfl := Option.some.inj ho
           have e196 : X 196 = (.bool true) := hI 196 (by kernel_rfl) (by kernel_rfl)
           have e211 : X 211 = (.pointer (some ⟨gr, offR + m * 19 + 3, none⟩)) := hI 211 (by kernel_rfl) (by kernel_rfl)
           have hx : Ext W7 w' := hph
           have q8 := HQP.out w' hx
           unfold wpOp
           simp only [ho]
           rw [frame221]
           simp only [e196]
           rw [if_pos (by rfl)]
           left
           go_simp
           refine metK (hK.out ((.slice (some ⟨gp, offP, none⟩) 1 cP)) _ (Below.refl _ _) (fun d hd => by cases hd; exact rfl)) ?_
           simp [frame221, Act.put, *]
          ·obtain rfl := Option.some.inj ho
           have e196 : X 196 = (.bool true) := hI 196 (by kernel_rfl) (by kernel_rfl)
           have e212 : X 212 = (.slice (some ⟨gp, offP, none⟩) 1 cP) := hI 212 (by kernel_rfl) (by kernel_rfl)
           unfold wpOp
           simp only [ho]
           rw [frame221]
           simp only [e196]
           rw [if_pos (by rfl)]
           left
           go_simp
           refine metK (hK.out ((.pointer (some ⟨gp, offP, none⟩))) _ (Below.refl _ _) (fun d hd => by cases hd; exact rfl)) ?_
           simp [frame221, Act.put, *]
          ·obtain rfl := Option.some.inj ho
           have e196 : X 196 = (.bool true) := hI 196 (by kernel_rfl) (by kernel_rfl)
           have e213 : X 213 = (.pointer (some ⟨gp, offP, none⟩)) := hI 213 (by kernel_rfl) (by kernel_rfl)
           unfold wpOp
           simp only [ho]
           rw [frame221]
           simp only [e196]
           rw [if_pos (by rfl)]
           left
           go_simp
           refine metK (hK.out ((.pointer (some ⟨gp, offP, none⟩))) _ (Below.refl _ _) (fun d hd => by cases hd; exact rfl)) ?_
           simp [frame221, Act.put, *]
          ·obtain rfl := Option.some.inj ho
           have e196 : X 196 = (.bool true) := hI 196 (by kernel_rfl) (by kernel_rfl)
           have e214 : X 214 = (.pointer (some ⟨gp, offP, none⟩)) := hI 214 (by kernel_rfl) (by kernel_rfl)
           have hx : Ext W7 w' := hph
           have q8 := HQV.out w' hx
           unfold wpOp
           simp only [ho]
           rw [frame221]
           simp only [e196]
           rw [if_pos (by rfl)]
           left
           go_simp
           refine metK (hK.out ((.int .i64 1)) _ (Below.refl _ _) (fun d hd => by cases hd; exact rfl)) ?_
           simp [frame221, Act.put, *]
          ·obtain rfl := Option.some.inj ho
           have e196 : X 196 = (.bool true) := hI 196 (by kernel_rfl) (by kernel_rfl)
           have e215 : X 215 = (.int .i64 1) := hI 215 (by kernel_rfl) (by kernel_rfl)
           unfold wpOp
           simp only [ho]
           rw [frame221]
           simp only [e196]
           rw [if_pos (by rfl)]
           left
           go_simp
           refine metK (hK.out ((.bool true)) _ (Below.refl _ _) (fun d hd => by cases hd; exact rfl)) ?_
           simp [frame221, Act.put, *]
          ·obtain rfl := Option.some.inj ho
           have e196 : X 196 = (.bool true) := hI 196 (by kernel_rfl) (by kernel_rfl)
           have e216 : X 216 = (.bool true) := hI 216 (by kernel_rfl) (by kernel_rfl)
           unfold wpOp
           simp only [ho]
           rw [if_pos (by rfl)]
           left
           rw [frame221]
           go_simp
           refine metK (hK.out ((.bool true)) _ (Below.refl _ _) (fun d hd => by cases hd; exact rfl)) ?_
           simp [frame221, Act.put, *]
          ·obtain rfl := Option.some.inj ho
           have e217 : X 217 = (.bool true) := hI 217 (by kernel_rfl) (by kernel_rfl)
           unfold wpOp
           simp only [ho]
           rw [if_pos (by rfl)]
           left
           rw [frame221]
           go_simp
           refine metK (hK.out ((.bool true)) _ (Below.refl _ _) (fun d hd => by cases hd; exact rfl)) ?_
           simp [frame221, Act.put, *]
          ·obtain rfl := Option.some.inj ho
           have e218 : X 218 = (.bool true) := hI 218 (by kernel_rfl) (by kernel_rfl)
           have hx : Ext W7 w' := hph
           unfold wpOp
           simp only [ho]
           rw [frame221]
           simp only [e218]
           rw [if_pos (by rfl)]
           left
           go_simp
           refine (lives16_any w' (HMM.out _ hx)).mono ?_
           rintro e w9 ⟨rfl, E9⟩
           refine metK (hK.out (.bool true) w9 E9 (fun d hd => by cases hd; rfl)) ?_
           simp [frame221, Act.put, *]
          ·obtain rfl := Option.some.inj ho
           have e218 : X 218 = (.bool true) := hI 218 (by kernel_rfl) (by kernel_rfl)
           have e219 : X 219 = (.bool true) := hI 219 (by kernel_rfl) (by kernel_rfl)
           unfold wpOp
           simp only [ho]
           rw [if_pos (by rfl)]
           left
           rw [frame221]
           go_simp
           refine metK (hK.out ((.bool true)) _ (Below.refl _ _) (fun d hd => by cases hd; exact rfl)) ?_
           simp [frame221, Act.put, *]
          ·obtain rfl := Option.some.inj ho
           have e220 : X 220 = (.bool true) := hI 220 (by kernel_rfl) (by kernel_rfl)
           unfold wpOp
           simp only [ho]
           rw [if_pos (by rfl)]
           left
           rw [frame221]
           go_simp
           refine metK (hK.out ((.bool true)) _ (Below.refl _ _) (fun d hd => by cases hd; exact rfl)) ?_
           simp [frame221, Act.put, *]
         ·intro i o ho hmi vs X w' hqi hql hph hX hI hF K hK
          rcases vs with _
          ·simp at hql <;> omega
         ·intro vs X w' hlen hph hX hI
          have e2 : X 2 = (.bool true) := hI 2 (by omega) (by kernel_rfl) (by kernel_rfl)
          have e186 : X 186 = (.pointer (some ⟨bb, 0, none⟩)) := hI 186 (by omega) (by kernel_rfl) (by kernel_rfl)
          have e187 : X 187 = (.pointer (some ⟨bb, 0, none⟩)) := hI 187 (by omega) (by kernel_rfl) (by kernel_rfl)
          have e188 : X 188 = (.pointer (some ⟨bb, 1, none⟩)) := hI 188 (by omega) (by kernel_rfl) (by kernel_rfl)
          have e189 : X 189 = (.pointer (some ⟨bb, 3, none⟩)) := hI 189 (by omega) (by kernel_rfl) (by kernel_rfl)
          have e190 : X 190 = (.slice (some ⟨gr, offR, none⟩) d.R.length cR) := hI 190 (by omega) (by kernel_rfl) (by kernel_rfl)
          have e191 : X 191 = (.int .i64 d.R.length) := hI 191 (by omega) (by kernel_rfl) (by kernel_rfl)
          have e192 : X 192 = (.pointer (some ⟨b6, 2, none⟩)) := hI 192 (by omega) (by kernel_rfl) (by kernel_rfl)
          have e193 : X 193 = (.slice aw d.R.length cRw) := hI 193 (by omega) (by kernel_rfl) (by kernel_rfl)
          have e194 : X 194 = (.int .i64 d.R.length) := hI 194 (by omega) (by kernel_rfl) (by kernel_rfl)
          have e195 : X 195 = (.bool true) := hI 195 (by omega) (by kernel_rfl) (by kernel_rfl)
          have e196 : X 196 = (.bool true) := hI 196 (by omega) (by kernel_rfl) (by kernel_rfl)
          have e197 : X 197 = (.pointer (some ⟨bb, 0, none⟩)) := hI 197 (by omega) (by kernel_rfl) (by kernel_rfl)
          have e198 : X 198 = (.pointer (some ⟨bb, 0, none⟩)) := hI 198 (by omega) (by kernel_rfl) (by kernel_rfl)
          have e199 : X 199 = (.pointer (some ⟨bb, 1, none⟩)) := hI 199 (by omega) (by kernel_rfl) (by kernel_rfl)
          have e200 : X 200 = (.pointer (some ⟨bb, 3, none⟩)) := hI 200 (by omega) (by kernel_rfl) (by kernel_rfl)
          have e201 : X 201 = (.slice (some ⟨gr, offR, none⟩) d.R.length cR) := hI 201 (by omega) (by kernel_rfl) (by kernel_rfl)
          have e202 : X 202 = (.pointer (some ⟨bb, 0, none⟩)) := hI 202 (by omega) (by kernel_rfl) (by kernel_rfl)
          have e203 : X 203 = (.pointer (some ⟨bb, 0, none⟩)) := hI 203 (by omega) (by kernel_rfl) (by kernel_rfl)
          have e204 : X 204 = (.pointer (some ⟨bb, 1, none⟩)) := hI 204 (by omega) (by kernel_rfl) (by kernel_rfl)
          have e205 : X 205 = (.pointer (some ⟨bb, 3, none⟩)) := hI 205 (by omega) (by kernel_rfl) (by kernel_rfl)
          have e206 : X 206 = (.slice (some ⟨gr, offR, none⟩) d.R.length cR) := hI 206 (by omega) (by kernel_rfl) (by kernel_rfl)
          have e207 : X 207 = (.int .i64 d.R.length) := hI 207 (by omega) (by kernel_rfl) (by kernel_rfl)
          have e208 : X 208 = (.int .i64 (m : Int)) := hI 208 (by omega) (by kernel_rfl) (by kernel_rfl)
          have e209 : X 209 = (.int .i64 (m : Int)) := hI 209 (by omega) (by kernel_rfl) (by kernel_rfl)
          have e210 : X 210 = (.pointer (some ⟨gr, offR + m * 19, none⟩)) := hI 210 (by omega) (by kernel_rfl) (by kernel_rfl)
          have e211 : X 211 = (.pointer (some ⟨gr, offR + m * 19 + 3, none⟩)) := hI 211 (by omega) (by kernel_rfl) (by kernel_rfl)
          have e212 : X 212 = (.slice (some ⟨gp, offP, none⟩) 1 cP) := hI 212 (by omega) (by kernel_rfl) (by kernel_rfl)
          have e213 : X 213 = (.pointer (some ⟨gp, offP, none⟩)) := hI 213 (by omega) (by kernel_rfl) (by kernel_rfl)
          have e214 : X 214 = (.pointer (some ⟨gp, offP, none⟩)) := hI 214 (by omega) (by kernel_rfl) (by kernel_rfl)
          have e215 : X 215 = (.int .i64 1) := hI 215 (by omega) (by kernel_rfl) (by kernel_rfl)
          have e216 : X 216 = (.bool true) := hI 216 (by omega) (by kernel_rfl) (by kernel_rfl)
          have e217 : X 217 = (.bool true) := hI 217 (by omega) (by kernel_rfl) (by kernel_rfl)
          have e218 : X 218 = (.bool true) := hI 218 (by omega) (by kernel_rfl) (by kernel_rfl)
          have e219 : X 219 = (.bool true) := hI 219 (by omega) (by kernel_rfl) (by kernel_rfl)
          have e220 : X 220 = (.bool true) := hI 220 (by omega) (by kernel_rfl) (by kernel_rfl)
          rcases vs with _ | ⟨vz, vs⟩
          rotate_left
          ·simp at hlen
          clear hX hI hlen
          simp only [overF, List.foldl_cons, List.foldl_nil, List.setIfInBounds_toArray, List.set_cons_succ, List.set_cons_zero, e2, e186, e187, e188, e189, e190, e191, e192, e193, e194, e195, e196, e197, e198, e199, e200, e201, e202, e203, e204, e205, e206, e207, e208, e209, e210, e211, e212, e213, e214, e215, e216, e217, e218, e219, e220]
          have hx9 : Ext W7 w' := hph
          clear hph e2 e186 e187 e188 e189 e190 e191 e192 e193 e194 e195 e196 e197 e198 e199 e200 e201 e202 e203 e204 e205 e206 e207 e208 e209 e210 e211 e212 e213 e214 e215 e216 e217 e218 e219 e220
          have HZ := hide (HX7.out.trans hx9)
          clear hx9
          go_wp2
          go_ret
          exact ⟨rfl, HZ.out⟩
end Go.Proofs.YtofjcokclegkhaaGreatDoor
