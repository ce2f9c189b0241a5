import Derived.Test.YtoaiakhnnfbkdaaGreatDoorZka
import Derived.Test.YtoaiakhnnfbkdaaGreatDoorZl
import Derived.Test.YtoaiakhnnfbkdaaGreatDoorRtJ
set_option maxRecDepth 100000
set_option maxHeartbeats 32000000
namespace Go.Proofs.YtoaiakhnnfbkdaaGreatDoor
open Go.ChangeShapes Go.WideShapes Go.ChangeAt Go.RowKit Go.Lib Go.Shelf Go.Maps
theorem allAt_end16 {α : Type} (f : List α -> α -> Bool) (l : List α) : allAt f (l.take l.length) (l.drop l.length) = true := by
 rw [List.drop_length];rfl
theorem frame168 (x : Nat -> Value) : frameOf 168 x = #[x 0,x 1,x 2,x 3,x 4,x 5,x 6,x 7,x 8,x 9,x 10,x 11,x 12,x 13,x 14,x 15,x 16,x 17,x 18,x 19,x 20,x 21,x 22,x 23,x 24,x 25,x 26,x 27,x 28,x 29,x 30,x 31,x 32,x 33,x 34,x 35,x 36,x 37,x 38,x 39,x 40,x 41,x 42,x 43,x 44,x 45,x 46,x 47,x 48,x 49,x 50,x 51,x 52,x 53,x 54,x 55,x 56,x 57,x 58,x 59,x 60,x 61,x 62,x 63,x 64,x 65,x 66,x 67,x 68,x 69,x 70,x 71,x 72,x 73,x 74,x 75,x 76,x 77,x 78,x 79,x 80,x 81,x 82,x 83,x 84,x 85,x 86,x 87,x 88,x 89,x 90,x 91,x 92,x 93,x 94,x 95,x 96,x 97,x 98,x 99,x 100,x 101,x 102,x 103,x 104,x 105,x 106,x 107,x 108,x 109,x 110,x 111,x 112,x 113,x 114,x 115,x 116,x 117,x 118,x 119,x 120,x 121,x 122,x 123,x 124,x 125,x 126,x 127,x 128,x 129,x 130,x 131,x 132,x 133,x 134,x 135,x 136,x 137,x 138,x 139,x 140,x 141,x 142,x 143,x 144,x 145,x 146,x 147,x 148,x 149,x 150,x 151,x 152,x 153,x 154,x 155,x 156,x 157,x 158,x 159,x 160,x 161,x 162,x 163,x 164,x 165,x 166,x 167] := rfl
theorem check16_any (c : ConfD) (w : World) (hok : ConfOk w c) (hf : ConfFit c) :
  Calls Tryz.prog 9 #[c.val] w fun e w' => e = .returned (.int .i64 (chkC c)) /\ Ext w w' := by
 obtain ⟨cd,hcd1,hcd2⟩ := Tryz.confDesc;obtain ⟨dd,hd1,hd2⟩ := Tryz.ruleDesc;obtain ⟨hS,hKs,hE,hR,hRo,hT⟩ := hok;obtain ⟨hlS,aS,cS,hvS⟩ := hS.shape;obtain ⟨hlE,aE,cE,hvE⟩ := hE.shape;obtain ⟨hlR,aR,cR,hvR⟩ := hR.shape;obtain ⟨hlT,aT,cT,hvT⟩ := hT.shape;have hx : Ext w (w.alloc (.cells #[c.sv,c.ev,c.rv,c.tv,.int .i64 c.w0,.int .i64 c.w1,.int .i64 c.w2,.int .i64 c.w3,.int .i64 c.w4,.int .i64 c.w5,.int .i64 c.w6,.int .i64 c.panic,.int .i64 c.low,.int .i64 c.high,.int .i64 c.wait,.int .i64 c.hop,.int .i64 c.life,.int .i64 c.purse,.int .i64 c.horizon,.int .i64 c.sample] 30)) := za;have hbx : BoxC (w.alloc (.cells #[c.sv,c.ev,c.rv,c.tv,.int .i64 c.w0,.int .i64 c.w1,.int .i64 c.w2,.int .i64 c.w3,.int .i64 c.w4,.int .i64 c.w5,.int .i64 c.w6,.int .i64 c.panic,.int .i64 c.low,.int .i64 c.high,.int .i64 c.wait,.int .i64 c.hop,.int .i64 c.life,.int .i64 c.purse,.int .i64 c.horizon,.int .i64 c.sample] 30)) w.heap.size c := heap_alloc_new w _;have HSC := hide (fun (i : Nat) (hi : i < c.S.length) (X : World) (hX : Ext w X) => service16_any c i hi X (hS.ext hX) ((hKs _ (List.getElem_mem hi)).ext hX) (hf.1 _ (List.getElem_mem hi)).2.2.2.2.2.2);have HEC := hide (fun (i : Nat) (hi : i < c.E.length) (X : World) (hX : Ext w X) => end16_any c i hi X (hS.ext hX) (hE.ext hX));have HNC := hide (fun (X : World) (hX : Ext w X) => rnew_any c.R c.T.length c.rv X (hR.ext hX) (fun r hr => ⟨(hRo r hr).ext hX,(hf.2.2.1 r hr).1⟩))
 have HLC := hide (fun (r : RuleD) (hr : r ∈ c.R) (X : World) (hX : Ext w X) => leads16_any c r X (hS.ext hX) ((hRo r hr).ext hX));have HIN := hide (fun (n lo hi : Int) (w : World) => in16_any n lo hi w);have HRS := hide (fun (X : World) (hX : Ext w X) => hR.ext hX);have HTS := hide (fun (X : World) (hX : Ext w X) => hT.ext hX)
 have q0 : (w.alloc (.cells #[c.sv,c.ev,c.rv,c.tv,.int .i64 c.w0,.int .i64 c.w1,.int .i64 c.w2,.int .i64 c.w3,.int .i64 c.w4,.int .i64 c.w5,.int .i64 c.w6,.int .i64 c.panic,.int .i64 c.low,.int .i64 c.high,.int .i64 c.wait,.int .i64 c.hop,.int .i64 c.life,.int .i64 c.purse,.int .i64 c.horizon,.int .i64 c.sample] 30)).cell? ⟨w.heap.size,0,none⟩ = some (.slice aS c.S.length cS) := by
  rw [<- hvS];exact hbx.cell 0 _ rfl
 have q1 : (w.alloc (.cells #[c.sv,c.ev,c.rv,c.tv,.int .i64 c.w0,.int .i64 c.w1,.int .i64 c.w2,.int .i64 c.w3,.int .i64 c.w4,.int .i64 c.w5,.int .i64 c.w6,.int .i64 c.panic,.int .i64 c.low,.int .i64 c.high,.int .i64 c.wait,.int .i64 c.hop,.int .i64 c.life,.int .i64 c.purse,.int .i64 c.horizon,.int .i64 c.sample] 30)).cell? ⟨w.heap.size,1,none⟩ = some (.slice aE c.E.length cE) := by
  rw [<- hvE];exact hbx.cell 1 _ rfl
 have q2 : (w.alloc (.cells #[c.sv,c.ev,c.rv,c.tv,.int .i64 c.w0,.int .i64 c.w1,.int .i64 c.w2,.int .i64 c.w3,.int .i64 c.w4,.int .i64 c.w5,.int .i64 c.w6,.int .i64 c.panic,.int .i64 c.low,.int .i64 c.high,.int .i64 c.wait,.int .i64 c.hop,.int .i64 c.life,.int .i64 c.purse,.int .i64 c.horizon,.int .i64 c.sample] 30)).cell? ⟨w.heap.size,2,none⟩ = some (.slice aR c.R.length cR) := by
  rw [<- hvR];exact hbx.cell 2 _ rfl
 have q3 : (w.alloc (.cells #[c.sv,c.ev,c.rv,c.tv,.int .i64 c.w0,.int .i64 c.w1,.int .i64 c.w2,.int .i64 c.w3,.int .i64 c.w4,.int .i64 c.w5,.int .i64 c.w6,.int .i64 c.panic,.int .i64 c.low,.int .i64 c.high,.int .i64 c.wait,.int .i64 c.hop,.int .i64 c.life,.int .i64 c.purse,.int .i64 c.horizon,.int .i64 c.sample] 30)).cell? ⟨w.heap.size,3,none⟩ = some (.slice aT c.T.length cT) := by
  rw [<- hvT];exact hbx.cell 3 _ rfl
 simp only [hvR] at HNC HRS;simp only [hvT] at HTS;obtain ⟨rr,hrr⟩ : ∃ z,chkC c = z := ⟨_,rfl⟩;rw [hrr];unfold chkC at hrr;have HRR := hide hrr;clear hrr hS hKs hE hR hRo hT hvS hvE hvR hvT hf;show Calls Tryz.prog 9 #[.agg #[c.sv,c.ev,c.rv,c.tv,.int .i64 c.w0,.int .i64 c.w1,.int .i64 c.w2,.int .i64 c.w3,.int .i64 c.w4,.int .i64 c.w5,.int .i64 c.w6,.int .i64 c.panic,.int .i64 c.low,.int .i64 c.high,.int .i64 c.wait,.int .i64 c.hop,.int .i64 c.life,.int .i64 c.purse,.int .i64 c.horizon,.int .i64 c.sample]] w _
 go_enter Tryz.func9,Tryz.ntmps9
 go_upto_region 1 with (fail)
 generalize w.alloc (.cells #[c.sv,c.ev,c.rv,c.tv,.int .i64 c.w0,.int .i64 c.w1,.int .i64 c.w2,.int .i64 c.w3,.int .i64 c.w4,.int .i64 c.w5,.int .i64 c.w6,.int .i64 c.panic,.int .i64 c.low,.int .i64 c.high,.int .i64 c.wait,.int .i64 c.hop,.int .i64 c.life,.int .i64 c.purse,.int .i64 c.horizon,.int .i64 c.sample] 30) = W at hx hbx q0 q1 q2 q3 ⊢;obtain ⟨bx,hbe⟩ : ∃ b,w.heap.size = b := ⟨_,rfl⟩;rw [hbe] at hbx q0 q1 q2 q3 ⊢;have HX := hide hx;have HBX := hide hbx;have HQ0 := hide (show ∀ X,Ext W X -> X.cell? ⟨bx,0,none⟩ = some (.slice aS c.S.length cS) from fun X hX => (hX.cell (p := ⟨bx,0,none⟩) (World.block_lt_of_cell? W _ q0)).trans q0);have HQ1 := hide (show ∀ X,Ext W X -> X.cell? ⟨bx,1,none⟩ = some (.slice aE c.E.length cE) from fun X hX => (hX.cell (p := ⟨bx,1,none⟩) (World.block_lt_of_cell? W _ q1)).trans q1);have HQR := hide (show ∀ X,Ext W X -> X.cell? ⟨bx,2,none⟩ = some (.slice aR c.R.length cR) from fun X hX => (hX.cell (p := ⟨bx,2,none⟩) (World.block_lt_of_cell? W _ q2)).trans q2);have HQ3 := hide (show ∀ X,Ext W X -> X.cell? ⟨bx,3,none⟩ = some (.slice aT c.T.length cT) from fun X hX => (hX.cell (p := ⟨bx,3,none⟩) (World.block_lt_of_cell? W _ q3)).trans q3);clear hx hbx hbe q2;by_cases h10 : 10 < c.S.length
 ·have h10z : (10 : Int) < c.S.length := by omega
  go_wp2;go_ret;exact ⟨by rw [<- HRR.out,if_pos (.inl h10)]; rfl,HX.out⟩
 have h10z : ¬ (10 : Int) < c.S.length := by omega
 by_cases h40 : 40 < c.E.length
 ·have h40z : (40 : Int) < c.E.length := by omega
  go_wp2;go_ret;exact ⟨by rw [<- HRR.out,if_pos (.inr (.inl h40))]; rfl,HX.out⟩
 have h40z : ¬ (40 : Int) < c.E.length := by omega
 by_cases h4 : 4 < c.T.length
 ·have h4z : (4 : Int) < c.T.length := by omega
  go_wp2;go_ret;exact ⟨by rw [<- HRR.out,if_pos (.inr (.inr h4))]; rfl,HX.out⟩
 have h4z : ¬ (4 : Int) < c.T.length := by omega
 have hr2 := HRR.out;rw [if_neg (by omega)] at hr2;have HR2 := hide hr2;clear HRR hr2 h10 h40 h4
 go_upto_region 3 with (fail)
 clear h10z h40z h4z q1 q3
 go_wp2_with fail
 go_loopw [3] (fun v3 wr => ∃ k : Nat,k <= c.S.length /\ v3 = .int .i64 k /\ Hid (allAt svcB [] c.S = allAt svcB (c.S.take k) (c.S.drop k)) /\ Hid (Ext W wr)) (fun j _ => c.S.length - (intOf j).toNat)
 case atStart => exact ⟨0,Nat.zero_le _,rfl,(show allAt svcB [] c.S = allAt svcB (c.S.take 0) (c.S.drop 0) from rfl),zb⟩
 case round =>
  clear q0;obtain ⟨k,hk,rfl,hall,hxx⟩ := hrel;have HAL := hide hall.out;have HY := hide hxx.out;clear hall hxx;generalize wr = wo at *;have q0 := HQ0.out _ HY.out;by_cases hlt : k < c.S.length
  ·have hkz : (k : Int) < c.S.length := (by omega);have hwk : IntKind.i64.wrap ((k : Int) + 1) = ((k + 1 : Nat) : Int) := (by rw [IntKind.wrap_i64]; omega);have hst := allAt_take svcB c.S k hlt;have hcl := HSC.out k hlt wo (HX.out.trans HY.out);obtain ⟨bt,hbt⟩ : ∃ x,svcB (c.S.take k) c.S[k] = x := ⟨_,rfl⟩;rw [hbt] at hcl hst;have HCL := hide hcl;have HST := hide hst;have HWK := hide hwk;clear hst hcl hbt hwk
   go_upto_region 6 with (fail)
   refine wp_region_lit ?_;refine wpList_load_mid rfl 30 (.tmp 1) rfl bx 0 rfl (encC c) cd ((HBX.out.ext HY.out).range) hcd1 hcd2 Tryz.confSize ?_;simp only [Act.put]
   go_wp2_with fail
   refine HCL.out.mono ?_;rintro e w7 ⟨rfl,E7⟩;have HZ := hide (HY.out.trans E7);have hwk := HWK.out;clear HCL E7 HY q0
   cases bt with
   | false =>
    go_wp2;go_ret
    exact ⟨by rw [<- HR2.out,if_pos (by rw [HAL.out,HST.out]; rfl)]; rfl,HX.out.trans HZ.out⟩
   | true =>
    go_wp2
    go_roundw
    case rel => exact ⟨k + 1,by omega,by go_num,(show allAt svcB [] c.S = allAt svcB (c.S.take (k + 1)) (c.S.drop (k + 1)) from by rw [HAL.out,HST.out]; rfl),HZ.out⟩
    case measure => (simp [intOf]) <;> omega
  ·obtain rfl : k = c.S.length := (by omega);have hal := HAL.out.trans (allAt_end16 svcB c.S);have hr2 := HR2.out;rw [if_neg (by rw [hal]; exact Bool.noConfusion)] at hr2;have HR3 := hide hr2;have q1 := HQ1.out _ HY.out;clear hal hr2 HAL HR2 hlt HSC
   go_upto_region 9 with (fail)
   clear q0
   go_wp2_with fail
   go_loopw [5] (fun v5 wr => ∃ k : Nat,k <= c.E.length /\ v5 = .int .i64 k /\ Hid (allAt (fun a e => endB a c.S e) [] c.E = allAt (fun a e => endB a c.S e) (c.E.take k) (c.E.drop k)) /\ Hid (Ext W wr)) (fun j _ => c.E.length - (intOf j).toNat)
   case atStart => exact ⟨0,Nat.zero_le _,rfl,(show allAt (fun a e => endB a c.S e) [] c.E = allAt (fun a e => endB a c.S e) (c.E.take 0) (c.E.drop 0) from rfl),HY.out⟩
   case round =>
    clear q1 HY;obtain ⟨k,hk,rfl,hall,hxx⟩ := hrel;have HAL := hide hall.out;have HY := hide hxx.out;clear hall hxx;generalize wr = wi at *;have q1 := HQ1.out _ HY.out;by_cases hlt : k < c.E.length
    ·have hkz : (k : Int) < c.E.length := (by omega);have hwk : IntKind.i64.wrap ((k : Int) + 1) = ((k + 1 : Nat) : Int) := (by rw [IntKind.wrap_i64]; omega);have hst := allAt_take (fun a e => endB a c.S e) c.E k hlt;have hcl := HEC.out k hlt wi (HX.out.trans HY.out);obtain ⟨bt,hbt⟩ : ∃ x,endB (c.E.take k) c.S c.E[k] = x := ⟨_,rfl⟩;rw [hbt] at hcl;simp only [hbt] at hst;have HCL := hide hcl;have HST := hide hst;have HWK := hide hwk;clear hst hcl hbt hwk
     go_upto_region 12 with (fail)
     refine wp_region_lit ?_;refine wpList_load_mid rfl 30 (.tmp 1) rfl bx 0 rfl (encC c) cd ((HBX.out.ext HY.out).range) hcd1 hcd2 Tryz.confSize ?_;simp only [Act.put]
     go_wp2_with fail
     refine HCL.out.mono ?_;rintro e w7 ⟨rfl,E7⟩;have HZ := hide (HY.out.trans E7);have hwk := HWK.out;clear HCL E7 HY q1
     cases bt with
     | false =>
      go_wp2;go_ret
      exact ⟨by rw [<- HR3.out,if_pos (by rw [HAL.out,HST.out]; rfl)]; rfl,HX.out.trans HZ.out⟩
     | true =>
      go_wp2
      go_roundw
      case rel => exact ⟨k + 1,by omega,by go_num,(show allAt (fun a e => endB a c.S e) [] c.E = allAt (fun a e => endB a c.S e) (c.E.take (k + 1)) (c.E.drop (k + 1)) from by rw [HAL.out,HST.out]; rfl),HZ.out⟩
      case measure => (simp [intOf]) <;> omega
    ·obtain rfl : k = c.E.length := (by omega);have hal := HAL.out.trans (allAt_end16 (fun a e => endB a c.S e) c.E);have hr2 := HR3.out;rw [if_neg (by rw [hal]; exact Bool.noConfusion)] at hr2;have HR4 := hide hr2;have hn := HNC.out wi (HX.out.trans HY.out);have q2 := HQR.out _ HY.out;have q3 := HQ3.out _ HY.out;obtain ⟨z,hz⟩ : ∃ z,nerr c.R c.T.length = z := ⟨_,rfl⟩;rw [hz] at hn;have HN := hide hn;have HZN := hide hz;clear hal hr2 HAL HR3 hlt HEC hn hz HNC HQ1
     go_wp2_with fail
     refine HN.out.mono ?_;rintro e w8 ⟨rfl,E8⟩;have HY8 := hide (HY.out.trans E8);clear q1 q2 q3 E8 HY HN;by_cases h0 : z = 0
     ·have hr4 := HR4.out;rw [if_neg (by rw [HZN.out]; exact fun h => h h0)] at hr4;have HR5 := hide hr4;have b0 : (z != 0) = false := (by simpa using h0);have q2 := HQR.out _ HY8.out;clear hr4 HR4 h0 HZN
      go_upto_region 18 with (fail)
      clear b0
      go_wp2_with fail
      go_loopw [8] (fun v8 wr => ∃ k : Nat,k <= c.R.length /\ v8 = .int .i64 k /\ Hid (∀ r ∈ c.R.take k,leadB c.S r = true) /\ Hid (Ext W wr)) (fun j _ => c.R.length - (intOf j).toNat)
      case atStart => exact ⟨0,Nat.zero_le _,rfl,(show ∀ r ∈ c.R.take 0,leadB c.S r = true from fun r hr => by simp at hr),HY8.out⟩
      case round =>
       clear q2 HY8;obtain ⟨k,hk,rfl,hall,hxx⟩ := hrel;have HAL := hide hall.out;have HY := hide hxx.out;clear hall hxx;generalize wr = wj at *;have q2 := HQR.out _ HY.out;by_cases hlt : k < c.R.length
       ·have hkz : (k : Int) < c.R.length := (by omega);have hwk : IntKind.i64.wrap ((k : Int) + 1) = ((k + 1 : Nat) : Int) := (by rw [IntKind.wrap_i64]; omega);have hrs := HRS.out w zb;obtain ⟨b,off,hae,hbb,hc⟩ := rules_at hrs k hlt;have hin : c.R[k] ∈ c.R := List.getElem_mem hlt
        have hsn : ∀ t,leadB c.S c.R[k] = t -> (t = true -> ∀ p ∈ c.R.take (k + 1),leadB c.S p = true) /\ (t = false -> c.R.all (leadB c.S) = false) := fun t ht => ⟨fun h0 p hp => by
         rw [take_snoc c.R k hlt] at hp;rcases List.mem_append.1 hp with hp | hp
         ·exact HAL.out p hp
         ·rw [List.mem_singleton.1 hp,ht,h0],fun h0 => by
         rw [List.all_eq_false]
         exact ⟨c.R[k],hin,by rw [ht,h0]; decide⟩⟩
        have hcl := HLC.out _ hin;obtain ⟨r,hr⟩ : ∃ r,c.R[k] = r := ⟨_,rfl⟩;rw [hr] at hc hsn hcl;obtain ⟨bt,hbt⟩ : ∃ t,leadB c.S r = t := ⟨_,rfl⟩;rw [hbt] at hcl;have HSN := hide (hsn bt hbt);have HTC := hide (fun (X : World) (hX : Ext wj X) => hcl X (HX.out.trans (HY.out.trans hX)));have HQ2 := hide (fun (X : World) (hX : Ext wj X) => HQR.out X (HY.out.trans hX));have HRG := hide (show ∀ X,Ext wj X -> X.rangeAt b (off + k * 19) (encR r) from fun X hX j v hv => ((HX.out.trans (HY.out.trans hX)).cell (p := ⟨b,off + k * 19 + j,none⟩) hbb).trans (hc j v hv));have HBW := hide (HBX.out.ext HY.out);have HKZ := hide (show (0 : Int) <= (k : Int) /\ (k : Int) < c.R.length from ⟨by omega,hkz⟩);have HWK := hide hwk;clear hsn hcl hbt hc hin hbb hwk HAL hrs hr;subst hae
        go_upto_region 21 with (fail)
        clear q2;refine wp_region_rw 168 [] [9,68,69,70,71,72,73,74] (fun _ w' => Ext wj w') (fun (t : Nat) (wI : World) (v : Value) => match t with | 9 => v = (.bool bt) | 68 => v = (.agg #[c.sv,c.ev,c.rv,c.tv,.int .i64 c.w0,.int .i64 c.w1,.int .i64 c.w2,.int .i64 c.w3,.int .i64 c.w4,.int .i64 c.w5,.int .i64 c.w6,.int .i64 c.panic,.int .i64 c.low,.int .i64 c.high,.int .i64 c.wait,.int .i64 c.hop,.int .i64 c.life,.int .i64 c.purse,.int .i64 c.horizon,.int .i64 c.sample]) | 69 => v = (.pointer (some ⟨bx,2,none⟩)) | 70 => v = (.slice (some ⟨b,off,none⟩) c.R.length cR) | 71 => v = (.int .i64 (k : Int)) | 72 => v = (.pointer (some ⟨b,off + k * 19,none⟩)) | 73 => v = (.agg (encR r).toArray) | 74 => v = (.bool bt) | _ => True) (fun w' w'' => Ext w' w'') (by kernel_rfl) rfl (by kernel_rfl) (by kernel_rfl) (by kernel_rfl) (by kernel_rfl) ?_ ?_ ?_ ?_ ?_ ?_ ?_
        ·intro w' w'' h;exact h
        ·intro t w' w'' v hR hv;exact hv
        ·intro vs w' w'' h e;exact Ext.trans (show Ext _ w' from h) e
        ·exact zb.drew
        ·intro i o ho hmi vs X w' hpk hph hX hI hF K hK;have hin : i < 8 := (zg ho);rcases zo hin with rfl | rfl | rfl | rfl | rfl | rfl | rfl | rfl
         all_goals first | (exact absurd hmi (by decide)) | (obtain rfl := Option.some.inj ho; unfold wpOp; simp only [ho]; rw [if_pos (by rfl)]; left; rw [frame168])
         ·have e1 : X 1 = (.pointer (some ⟨bx,0,none⟩)) := zk3 (hF 1);have hx : Ext wj w' := hph;refine wp_load_mid 30 (.tmp 1) rfl bx 0 e1 (encC c) cd ((HBW.out.ext hx).range) hcd1 hcd2 Tryz.confSize (metK (hK.out (.agg #[c.sv,c.ev,c.rv,c.tv,.int .i64 c.w0,.int .i64 c.w1,.int .i64 c.w2,.int .i64 c.w3,.int .i64 c.w4,.int .i64 c.w5,.int .i64 c.w6,.int .i64 c.panic,.int .i64 c.low,.int .i64 c.high,.int .i64 c.wait,.int .i64 c.hop,.int .i64 c.life,.int .i64 c.purse,.int .i64 c.horizon,.int .i64 c.sample]) _ zb (fun d hd => by cases hd; exact rfl)) ?_);simp [frame168,Act.put, *];rfl
         ·have e1 : X 1 = (.pointer (some ⟨bx,0,none⟩)) := zk3 (hF 1);go_simp;refine zm1 hK ((.pointer (some ⟨bx,2,none⟩))) ?_;simp [frame168,Act.put, *]
         ·have e69 : X 69 = _ := zk2 (hI 69);have hx : Ext wj w' := hph;have z := HQ2.out w' hx;go_simp;refine zm1 hK ((.slice (some ⟨b,off,none⟩) c.R.length cR)) ?_;simp [frame168,Act.put, *]
         ·have e8 : X 8 = (.int .i64 (k : Int)) := zk3 (hF 8);go_simp;refine zm1 hK ((.int .i64 (k : Int))) ?_;simp [frame168,Act.put, *]
         ·have e70 : X 70 = _ := zk2 (hI 70);have e71 : X 71 = _ := zk2 (hI 71);have hz0 := HKZ.out.1;have hz1 := HKZ.out.2;go_simp;refine zm1 hK ((.pointer (some ⟨b,off + k * 19,none⟩))) ?_;simp [frame168,Act.put, *]
         ·have e72 : X 72 = _ := zk2 (hI 72);have hx : Ext wj w' := hph;refine wp_load_mid 69 (.tmp 72) rfl b (off + k * 19) e72 (encR r) dd (HRG.out w' hx) hd1 hd2 Tryz.ruleSize (metK (hK.out (.agg (encR r).toArray) _ zb (fun d hd => by cases hd; exact rfl)) ?_);simp [frame168,Act.put, *]
         ·have e68 : X 68 = _ := zk2 (hI 68);have e73 : X 73 = _ := zk2 (hI 73);have hx : Ext wj w' := hph;go_simp;refine (HTC.out w' hx).mono ?_;rintro e w9 ⟨rfl,E9⟩;refine metK (hK.out (.bool bt) w9 E9 (fun d hd => by cases hd; rfl)) ?_;simp [frame168,Act.put, *]
         ·have e74 : X 74 = _ := zk2 (hI 74);go_simp;refine zm1 hK ((.bool bt)) ?_;simp [frame168,Act.put, *]
        ·intro i o ho hmi vs X w' hqi hql hph hX hI hF K hK;rcases vs with _
         ·simp at hql <;> omega
        ·intro vs X w' hlen hph hX hI;have e9 : X 9 = _ := zk4 (hI 9);have e68 : X 68 = _ := zk4 (hI 68);have e69 : X 69 = _ := zk4 (hI 69);have e70 : X 70 = _ := zk4 (hI 70);have e71 : X 71 = _ := zk4 (hI 71);have e72 : X 72 = _ := zk4 (hI 72);have e73 : X 73 = _ := zk4 (hI 73);have e74 : X 74 = _ := zk4 (hI 74);rcases vs with _ | ⟨vz,vs⟩
         rotate_left
         ·simp at hlen
         clear hX hI hlen;simp only [overF,List.foldl_cons,List.foldl_nil,List.setIfInBounds_toArray,List.set_cons_succ,List.set_cons_zero,e9,e68,e69,e70,e71,e72,e73,e74];have hx9 : Ext wj w' := hph;clear hph e9 e68 e69 e70 e71 e72 e73 e74;have HZ9 := hide (HY.out.trans hx9);clear hx9 HQ2 HKZ HBW HTC HY HRG;have hwk := HWK.out
         cases bt with
         | false =>
          have h0 := HSN.out.2 (by first | rfl | trivial);have hrr := HR5.out;rw [if_pos h0] at hrr;have HR6 := hide hrr;clear hrr h0;go_wp2;go_ret
          exact ⟨by rw [<- HR6.out]; rfl,HX.out.trans HZ9.out⟩
         | true =>
          go_wp2
          go_roundw
          case rel => exact ⟨k + 1,by omega,by go_num,(show ∀ p ∈ c.R.take (k + 1),leadB c.S p = true from HSN.out.1 (by first | rfl | trivial)),HZ9.out⟩
          case measure => (simp [intOf]) <;> omega
       ·obtain rfl : k = c.R.length := by omega
        have hal : c.R.all (leadB c.S) = true := by
         rw [List.all_eq_true];intro x hx;exact HAL.out x (by rw [List.take_length]; exact hx)
        have hr5 := HR5.out;rw [if_neg (by rw [hal]; exact Bool.noConfusion)] at hr5;have HR6 := hide hr5;have q3 := HQ3.out _ HY.out;clear hal hr5 HAL HR5 hlt HLC HQR HRS
        go_upto_region 24 with (fail)
        clear q2
        go_wp2_with fail
        go_loopw [10] (fun v10 wr => ∃ k : Nat,k <= c.T.length /\ v10 = .int .i64 k /\ Hid (∀ r ∈ c.T.take k,rateB r = true) /\ Hid (Ext W wr)) (fun j _ => c.T.length - (intOf j).toNat)
        case atStart => exact ⟨0,Nat.zero_le _,rfl,(show ∀ r ∈ c.T.take 0,rateB r = true from fun r hr => by simp at hr),HY.out⟩
        case round =>
         clear q3 HY;obtain ⟨k,hk,rfl,hall,hxx⟩ := hrel;have HAL := hide hall.out;have HY := hide hxx.out;clear hall hxx;generalize wr = wk at *;have q3 := HQ3.out _ HY.out;by_cases hlt : k < c.T.length
         ·have hkz : (k : Int) < c.T.length := (by omega);have hwk : IntKind.i64.wrap ((k : Int) + 1) = ((k + 1 : Nat) : Int) := (by rw [IntKind.wrap_i64]; omega);obtain ⟨_,a',c',hv,_,hc⟩ := HTS.out wk (HX.out.trans HY.out);cases hv;obtain ⟨b,off,hae,hbb,hcc⟩ := hc k c.T[k] (List.getElem?_eq_getElem hlt);have hin : c.T[k] ∈ c.T := List.getElem_mem hlt
          have hsn : ∀ t,rateB c.T[k] = t -> (t = true -> ∀ p ∈ c.T.take (k + 1),rateB p = true) /\ (t = false -> c.T.all rateB = false) := fun t ht => ⟨fun h0 p hp => by
           rw [take_snoc c.T k hlt] at hp;rcases List.mem_append.1 hp with hp | hp
           ·exact HAL.out p hp
           ·rw [List.mem_singleton.1 hp,ht,h0],fun h0 => by
           rw [List.all_eq_false]
           exact ⟨c.T[k],hin,by rw [ht,h0]; decide⟩⟩
          obtain ⟨r,hr⟩ : ∃ r,c.T[k] = r := ⟨_,rfl⟩;rw [hr] at hcc hsn;obtain ⟨lim,win,sl⟩ := r;have d0 : wk.cell? ⟨b,off + k * 3,none⟩ = some (.int .i64 lim) := hcc 0 _ rfl;have d1 : wk.cell? ⟨b,off + k * 3 + 1,none⟩ = some (.int .i64 win) := hcc 1 _ rfl;have d2 : wk.cell? ⟨b,off + k * 3 + 2,none⟩ = some (.int .i64 sl) := hcc 2 _ rfl;have HSN := hide (show ((inB 1 1000 lim && inB 1 1000 win && inB 1 lim sl) = true -> ∀ p ∈ c.T.take (k + 1),rateB p = true) /\ ((inB 1 1000 lim && inB 1 1000 win && inB 1 lim sl) = false -> c.T.all rateB = false) from hsn _ rfl);have HXB := hide (HY.out.trans ((Below.refl _ wk).alloc (Nat.le_refl _) (.cells #[.int .i64 lim,.int .i64 win,.int .i64 sl] 55)));subst hae;clear hc hcc hin hsn hr hbb HAL;obtain ⟨b1,hb1⟩ : ∃ t,inB 1 1000 lim = t := ⟨_,rfl⟩;obtain ⟨b2,hb2⟩ : ∃ t,inB 1 1000 win = t := ⟨_,rfl⟩;obtain ⟨b3,hb3⟩ : ∃ t,inB 1 lim sl = t := ⟨_,rfl⟩;rw [hb1,hb2,hb3] at HSN
          cases b1 with
          | false =>
           go_wp2_with (go_at_call 30; refine (HIN.out _ _ _ _).mono ?_; rintro e w' ⟨rfl,rfl⟩; first | rw [hb1] | rw [hb2] | rw [hb3])
           go_ret
           exact ⟨by rw [<- HR6.out,if_pos (HSN.out.2 (by first | rfl | trivial))]; rfl,HX.out.trans HXB.out⟩
          | true =>
           cases b2 with
           | false =>
            go_wp2_with (go_at_call 30; refine (HIN.out _ _ _ _).mono ?_; rintro e w' ⟨rfl,rfl⟩; first | rw [hb1] | rw [hb2] | rw [hb3])
            go_ret
            exact ⟨by rw [<- HR6.out,if_pos (HSN.out.2 (by first | rfl | trivial))]; rfl,HX.out.trans HXB.out⟩
           | true =>
            cases b3 with
            | false =>
             go_wp2_with (go_at_call 30; refine (HIN.out _ _ _ _).mono ?_; rintro e w' ⟨rfl,rfl⟩; first | rw [hb1] | rw [hb2] | rw [hb3])
             go_ret
             exact ⟨by rw [<- HR6.out,if_pos (HSN.out.2 (by first | rfl | trivial))]; rfl,HX.out.trans HXB.out⟩
            | true =>
             go_wp2_with (go_at_call 30; refine (HIN.out _ _ _ _).mono ?_; rintro e w' ⟨rfl,rfl⟩; first | rw [hb1] | rw [hb2] | rw [hb3])
             go_roundw
             case rel => exact ⟨k + 1,by omega,by go_num,(show ∀ p ∈ c.T.take (k + 1),rateB p = true from HSN.out.1 (by first | rfl | trivial)),HXB.out⟩
             case measure => (simp [intOf]) <;> omega
         ·obtain rfl : k = c.T.length := by omega
          have hal : c.T.all rateB = true := by
           rw [List.all_eq_true];intro x hx;exact HAL.out x (by rw [List.take_length]; exact hx)
          have hr6 := HR6.out;rw [if_neg (by rw [hal]; exact Bool.noConfusion)] at hr6;have hbx := HBX.out.ext HY.out;have m4 := hbx.cell 4 _ rfl;have m5 := hbx.cell 5 _ rfl;have m6 := hbx.cell 6 _ rfl;have m7 := hbx.cell 7 _ rfl;have m8 := hbx.cell 8 _ rfl;have m9 := hbx.cell 9 _ rfl;have m10 := hbx.cell 10 _ rfl;have h14 := check14_any c wk;obtain ⟨bw,hbw⟩ : ∃ x,watchB c = x := ⟨_,rfl⟩;rw [hbw] at h14 hr6;have HB9 := hide hbx;have H14 := hide h14;have HR7 := hide hr6;clear hal hr6 HAL HR6 hlt HQ3 HTS hbx h14 hbw
          go_upto_region 30 with (fail)
          clear q3
          cases bw with
          | false =>
           go_wp2_with (go_at_call 31; refine H14.out.mono ?_; rintro e wn ⟨rfl,E2⟩; have HE2 := hide E2; clear E2)
           go_ret
           exact ⟨by rw [<- HR7.out]; rfl,HX.out.trans (HY.out.trans HE2.out)⟩
          | true =>
           go_upto_region 33 with (go_at_call 31; refine H14.out.mono ?_; rintro e wn ⟨rfl,E2⟩)
           have HBN := hide (HB9.out.ext E2);have HXN := hide (HX.out.trans (HY.out.trans E2));have m11 := HBN.out.cell 11 _ rfl;have m12 := HBN.out.cell 12 _ rfl;have m13 := HBN.out.cell 13 _ rfl;have m14 := HBN.out.cell 14 _ rfl;have m15 := HBN.out.cell 15 _ rfl;have m16 := HBN.out.cell 16 _ rfl;have m17 := HBN.out.cell 17 _ rfl;have m18 := HBN.out.cell 18 _ rfl;have m19 := HBN.out.cell 19 _ rfl;have hr7 := HR7.out;unfold numB at hr7;clear E2 m4 m5 m6 m7 m8 m9 m10 HR7 HB9 H14 HY;by_cases h100 : c.high <= 100
           ·rw [decide_eq_true h100] at hr7;have h100z : (100 < c.high) = False := (by simp; omega);have HR8 := hide hr7;clear hr7
            go_wp2_with (go_at_call 30; refine (HIN.out _ _ _ _).mono ?_; rintro e w' ⟨rfl,rfl⟩)
            all_goals go_ret
            all_goals exact ⟨by rw [<- HR8.out]; simp_all,HXN.out⟩
           ·rw [decide_eq_false h100] at hr7;have h100z : (100 < c.high) = True := (by simp; omega);have HR8 := hide hr7;clear hr7
            go_wp2_with (go_at_call 30; refine (HIN.out _ _ _ _).mono ?_; rintro e w' ⟨rfl,rfl⟩)
            all_goals go_ret
            all_goals exact ⟨by rw [<- HR8.out]; simp_all,HXN.out⟩
     ·have hr4 := HR4.out;rw [if_pos (by rw [HZN.out]; exact h0),HZN.out] at hr4;have HR5 := hide hr4;have b0 : (z != 0) = true := (by simpa using h0);clear hr4 HR4 h0 HZN;go_wp2;go_ret;exact ⟨by rw [<- HR5.out]; rfl,HX.out.trans HY8.out⟩
end Go.Proofs.YtoaiakhnnfbkdaaGreatDoor
