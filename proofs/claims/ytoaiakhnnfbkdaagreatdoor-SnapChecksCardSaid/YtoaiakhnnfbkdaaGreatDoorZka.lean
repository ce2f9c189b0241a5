/- Lemmas. -/
import Derived.Test.YtoaiakhnnfbkdaaGreatDoorZcb
import Derived.Test.YtoaiakhnnfbkdaaGreatDoorZss
import Derived.Test.YtoaiakhnnfbkdaaGreatDoorZy
import Derived.Test.YtoaiakhnnfbkdaaGreatDoorZq
import Derived.Test.YtoaiakhnnfbkdaaGreatDoorZrw
import Derived.BigFrame
set_option maxRecDepth 100000
set_option maxHeartbeats 32000000
namespace Go.Proofs.YtoaiakhnnfbkdaaGreatDoor
open Go.ChangeShapes Go.WideShapes Go.ChangeAt Go.RowKit Go.Lib Go.Shelf Go.Maps
theorem in16_any (n lo hi : Int) (w : World) : Calls Tryz.prog 30 #[.int .i64 n,.int .i64 lo,.int .i64 hi] w fun e w' => e = .returned (.bool (inB lo hi n)) /\ w = w' := by
 unfold inB;by_cases h1 : lo <= n
 ·by_cases h2 : n <= hi
  ·rw [decide_eq_true h1,decide_eq_true h2]
   go_enter Tryz.func30,Tryz.ntmps30
   go_wp2;go_ret;exact ⟨rfl,rfl⟩
  ·rw [decide_eq_true h1,decide_eq_false h2]
   go_enter Tryz.func30,Tryz.ntmps30
   go_wp2;go_ret;exact ⟨rfl,rfl⟩
 ·rw [decide_eq_false h1]
  go_enter Tryz.func30,Tryz.ntmps30
  go_wp2;go_ret;exact ⟨rfl,rfl⟩
theorem in14_any (n lo hi : Int) (w : World) : Calls Tryz.prog 67 #[.int .i64 n,.int .i64 lo,.int .i64 hi] w fun e w' => e = .returned (.bool (inB lo hi n)) /\ w = w' := by
 unfold inB;by_cases h1 : lo <= n
 ·by_cases h2 : n <= hi
  ·rw [decide_eq_true h1,decide_eq_true h2]
   go_enter Tryz.func67,Tryz.ntmps67
   go_wp2;go_ret;exact ⟨rfl,rfl⟩
  ·rw [decide_eq_true h1,decide_eq_false h2]
   go_enter Tryz.func67,Tryz.ntmps67
   go_wp2;go_ret;exact ⟨rfl,rfl⟩
 ·rw [decide_eq_false h1]
  go_enter Tryz.func67,Tryz.ntmps67
  go_wp2;go_ret;exact ⟨rfl,rfl⟩
theorem check14_any (c : ConfD) (w : World) : Calls Tryz.prog 31 #[.agg #[.int .i64 c.w0,.int .i64 c.w1,.int .i64 c.w2,.int .i64 c.w3,.int .i64 c.w4,.int .i64 c.w5,.int .i64 c.w6]] w fun e w' => e = .returned (.int .i64 (if watchB c = false then 8 else 0)) /\ Ext w w' := by
 obtain ⟨sv,S,ev,E,rv,R,tv,T,w0,w1,w2,w3,w4,w5,w6,panic,low,high,wait,hop,life,purse,horizon,sample⟩ := c;have HW := hide (fun (n lo hi : Int) (w : World) => in14_any n lo hi w);have hE : ∀ a,Ext w (w.alloc a) := fun a => za;have HE := hide hE;clear hE;unfold watchB;simp only []
 go_enter Tryz.func31,Tryz.ntmps31
 go_wp2_with (go_at_call 67; refine (HW.out _ _ _ _).mono ?_; rintro e w' ⟨rfl,rfl⟩)
 all_goals go_ret
 all_goals exact ⟨by simp_all,HE.out _⟩
theorem thereB_take (S : List SvcD) (k : Nat) (hk : k < S.length) (id : Int) : thereB (S.take (k + 1)) id = (thereB (S.take k) id || S[k].id == id) := by
 unfold thereB;rw [take_snoc S k hk,List.any_append];simp
theorem anyE_take (E : List EndD) (k : Nat) (hk : k < E.length) (id : Int) : ((E.take (k + 1)).any fun x => x.id == id) = (((E.take k).any fun x => x.id == id) || E[k].id == id) := by
 rw [take_snoc E k hk,List.any_append];simp
theorem end16_any (c : ConfD) (i : Nat) (hi : i < c.E.length) (w : World) (hS : Svcs w c.sv c.S) (hE : Ends w c.ev c.E) :
  Calls Tryz.prog 27 #[c.val,.int .i64 i] w fun e w' => e = .returned (.bool (endB (c.E.take i) c.S c.E[i])) /\ Ext w w' := by
 obtain ⟨cd,hcd1,hcd2⟩ := Tryz.confDesc;obtain ⟨hl63,aE,cE,hvE⟩ := hE.shape;have HTH := hide (fun (id : Int) (X : World) (hX : Ext w X) => there16_any c id X (hS.ext hX));have HW := hide (fun (n lo hi : Int) (w : World) => in16_any n lo hi w);obtain ⟨rr,hrr⟩ : ∃ z,endB (c.E.take i) c.S c.E[i] = z := ⟨_,rfl⟩;rw [hrr];have HRR := hide hrr;clear hrr;have hx : Ext w (w.alloc (.cells #[c.sv,c.ev,c.rv,c.tv,.int .i64 c.w0,.int .i64 c.w1,.int .i64 c.w2,.int .i64 c.w3,.int .i64 c.w4,.int .i64 c.w5,.int .i64 c.w6,.int .i64 c.panic,.int .i64 c.low,.int .i64 c.high,.int .i64 c.wait,.int .i64 c.hop,.int .i64 c.life,.int .i64 c.purse,.int .i64 c.horizon,.int .i64 c.sample] 30)) := za;have hbx : BoxC (w.alloc (.cells #[c.sv,c.ev,c.rv,c.tv,.int .i64 c.w0,.int .i64 c.w1,.int .i64 c.w2,.int .i64 c.w3,.int .i64 c.w4,.int .i64 c.w5,.int .i64 c.w6,.int .i64 c.panic,.int .i64 c.low,.int .i64 c.high,.int .i64 c.wait,.int .i64 c.hop,.int .i64 c.life,.int .i64 c.purse,.int .i64 c.horizon,.int .i64 c.sample] 30)) w.heap.size c := heap_alloc_new w _
 have q1 : (w.alloc (.cells #[c.sv,c.ev,c.rv,c.tv,.int .i64 c.w0,.int .i64 c.w1,.int .i64 c.w2,.int .i64 c.w3,.int .i64 c.w4,.int .i64 c.w5,.int .i64 c.w6,.int .i64 c.panic,.int .i64 c.low,.int .i64 c.high,.int .i64 c.wait,.int .i64 c.hop,.int .i64 c.life,.int .i64 c.purse,.int .i64 c.horizon,.int .i64 c.sample] 30)).cell? ⟨w.heap.size,1,none⟩ = some (.slice aE c.E.length cE) := by
  rw [<- hvE];exact hbx.cell 1 _ rfl
 rw [hvE] at hE;clear hvE;show Calls Tryz.prog 27 #[.agg #[c.sv,c.ev,c.rv,c.tv,.int .i64 c.w0,.int .i64 c.w1,.int .i64 c.w2,.int .i64 c.w3,.int .i64 c.w4,.int .i64 c.w5,.int .i64 c.w6,.int .i64 c.panic,.int .i64 c.low,.int .i64 c.high,.int .i64 c.wait,.int .i64 c.hop,.int .i64 c.life,.int .i64 c.purse,.int .i64 c.horizon,.int .i64 c.sample],.int .i64 i] w _
 go_enter Tryz.func27,Tryz.ntmps27
 go_upto_region 1 with (fail)
 generalize w.alloc (.cells #[c.sv,c.ev,c.rv,c.tv,.int .i64 c.w0,.int .i64 c.w1,.int .i64 c.w2,.int .i64 c.w3,.int .i64 c.w4,.int .i64 c.w5,.int .i64 c.w6,.int .i64 c.panic,.int .i64 c.low,.int .i64 c.high,.int .i64 c.wait,.int .i64 c.hop,.int .i64 c.life,.int .i64 c.purse,.int .i64 c.horizon,.int .i64 c.sample] 30) = W at hx hbx q1 ⊢;obtain ⟨bx,hbe⟩ : ∃ b,w.heap.size = b := ⟨_,rfl⟩;rw [hbe] at hbx q1 ⊢;have HX := hide hx;have HBX := hide hbx;have HE := hide (hE.ext hx);have hiz : (i : Int) < c.E.length := by omega
 obtain ⟨b,off,rfl,hbb,c0,c1,c2⟩ := ends_at HE.out i hi;obtain ⟨y,hy⟩ : ∃ y,c.E[i] = y := ⟨_,rfl⟩;rw [hy] at c0 c1 c2 HRR;clear hy;obtain ⟨E,hEe⟩ : ∃ E,c.E = E := ⟨_,rfl⟩;obtain ⟨S,hSe⟩ : ∃ S,c.S = S := ⟨_,rfl⟩;rw [hEe] at hi hiz q1 HE HRR hl63;rw [hSe] at HTH HRR;clear hE hx hbx hS hEe hSe;obtain ⟨yid,ysv,yzo⟩ := y;have c0 : W.cell? ⟨b,off + i * 3,none⟩ = some (.int .i64 yid) := c0;have c1 : W.cell? ⟨b,off + i * 3 + 1,none⟩ = some (.int .i64 ysv) := c1;have c2 : W.cell? ⟨b,off + i * 3 + 2,none⟩ = some (.int .i64 yzo) := c2;have hal : Ext W (W.alloc (.cells #[.int .i64 yid,.int .i64 ysv,.int .i64 yzo] 53)) := za;have hb5 := heap_alloc_new W (.cells #[.int .i64 yid,.int .i64 ysv,.int .i64 yzo] 53);have hbw := hal.cell (p := ⟨bx,1,none⟩) (World.block_lt_of_cell? W _ q1)
 go_upto_region 2 with (fail)
 generalize W.alloc (.cells #[.int .i64 yid,.int .i64 ysv,.int .i64 yzo] 53) = W2 at hal hb5 hbw ⊢;obtain ⟨b5,hb5e⟩ : ∃ b,W.heap.size = b := ⟨_,rfl⟩;rw [hb5e] at hb5 ⊢;rw [q1] at hbw;have HQ1 := hide (show ∀ X,Ext W2 X -> X.cell? ⟨bx,1,none⟩ = some (.slice (some ⟨b,off,none⟩) E.length cE) from fun X hX => (hX.cell (p := ⟨bx,1,none⟩) (World.block_lt_of_cell? W2 _ hbw)).trans hbw);have e0 : W2.cell? ⟨b5,0,none⟩ = some (.int .i64 yid) := by simp only [World.cell?,hb5]; rfl
 have e1 : W2.cell? ⟨b5,1,none⟩ = some (.int .i64 ysv) := by simp only [World.cell?,hb5]; rfl
 have e2 : W2.cell? ⟨b5,2,none⟩ = some (.int .i64 yzo) := by simp only [World.cell?,hb5]; rfl
 have HC0 := hide (show ∀ X,Ext W2 X -> X.cell? ⟨b5,0,none⟩ = some (.int .i64 yid) from fun X hX => (hX.cell (p := ⟨b5,0,none⟩) (World.block_lt_of_cell? W2 _ e0)).trans e0);have HC1 := hide (show ∀ X,Ext W2 X -> X.cell? ⟨b5,1,none⟩ = some (.int .i64 ysv) from fun X hX => (hX.cell (p := ⟨b5,1,none⟩) (World.block_lt_of_cell? W2 _ e1)).trans e1);have HC2 := hide (show ∀ X,Ext W2 X -> X.cell? ⟨b5,2,none⟩ = some (.int .i64 yzo) from fun X hX => (hX.cell (p := ⟨b5,2,none⟩) (World.block_lt_of_cell? W2 _ e2)).trans e2);have HX2 := hide (HX.out.trans hal);have HB2 := hide (HBX.out.ext hal);have HE2 := hide (HE.out.ext hal);clear hb5 e0 e1 e2 hbw hal c0 c1 c2 q1 hbb HE hb5e
 go_wp2_with fail
 go_loopw [6] (fun v6 wr => ∃ k : Nat,k <= i /\ v6 = .int .i64 k /\ Hid (((E.take k).any fun x => x.id == yid) = false) /\ Hid (Ext W2 wr)) (fun j _ => i - (intOf j).toNat)
 case atStart => exact ⟨0,Nat.zero_le _,rfl,(show (((E.take 0).any fun x => x.id == yid) = false) from by simp),zb⟩
 case round =>
  obtain ⟨k,hk,rfl,hno,hxx⟩ := hrel;have HNO := hide hno.out;have HY := hide hxx.out;clear hno hxx;generalize wr = wo at *;by_cases hlt : k < i
  ·have hkz : (k : Int) < i := (by omega);have hkl : (k : Int) < E.length := (by omega);have hk0 : (0 : Int) <= k := (by omega);have hwk : IntKind.i64.wrap ((k : Int) + 1) = ((k + 1 : Nat) : Int) := (by rw [IntKind.wrap_i64]; omega);have hkE : k < E.length := (by omega);obtain ⟨b',off',hbe',-,d0,-,-⟩ := ends_at (HE2.out.ext HY.out) k hkE;cases hbe';have hst := anyE_take E k hkE yid
   have hinn : (E[k].id == yid) = true -> ((E.take i).any fun x => x.id == yid) = true := fun h =>
    List.any_eq_true.2 ⟨E[k],by rw [List.mem_iff_getElem]; exact ⟨k,by rw [List.length_take]; omega,by rw [List.getElem_take]⟩,h⟩
   rw [HNO.out,Bool.false_or] at hst;obtain ⟨x,hx⟩ : ∃ x,E[k].id = x := ⟨_,rfl⟩;rw [hx] at d0 hst hinn;have HST := hide hst;have HIN := hide hinn;have q1 := HQ1.out _ HY.out;have f0 := HC0.out _ HY.out;clear hst hinn hx HNO hkE;by_cases e : x = yid
   ·have e1 : (x == yid) = true := (by simpa using e);have h1 := HIN.out e1
    have hz : endB (E.take i) S ⟨yid,ysv,yzo⟩ = false := by
     unfold endB;simp only [h1];simp
    have hrr := HRR.out;rw [hz] at hrr;have HR3 := hide hrr;clear e h1 HIN HST hz hrr
    go_upto_region 5 with (fail)
    go_quiet (fail)
    go_wp2;go_ret;exact ⟨by rw [<- HR3.out]; rfl,HX2.out.trans (Below.drewN' HY.out _)⟩
   ·have e1 : (x == yid) = false := (by simpa using e);clear e HIN
    go_upto_region 5 with (fail)
    go_quiet (fail)
    go_wp2
    go_roundw
    case rel => exact ⟨k + 1,by omega,by go_num,(show (((E.take (k + 1)).any fun x => x.id == yid) = false) from by rw [HST.out,e1]),Below.drewN' HY.out _⟩
    case measure => (simp [intOf]) <;> omega
  ·obtain rfl : k = i := (by omega);have hno := HNO.out;have HXY := hide (HX2.out.trans HY.out)
   have hb : endB (E.take k) S ⟨yid,ysv,yzo⟩ = (thereB S ysv && inB 1 40 yid && inB 1 4 yzo) := by
    unfold endB;simp only [hno];cases inB 1 40 yid <;> cases thereB S ysv <;> rfl
   have hrr := HRR.out;rw [hb] at hrr;obtain ⟨bt,hbt⟩ : ∃ t,thereB S ysv = t := ⟨_,rfl⟩;have hth := HTH.out ysv wo HXY.out;rw [hbt] at hth hrr;have HR3 := hide hrr;clear hrr;have HTC := hide hth;have f1 := HC1.out _ HY.out;clear hno hb hbt hth HNO HTH HQ1 hlt
   go_upto_region 7 with (fail)
   refine wp_region_lit ?_;refine wpList_load_mid rfl 30 (.tmp 2) rfl bx 0 rfl (encC c) cd ((HB2.out.ext HY.out).range) hcd1 hcd2 Tryz.confSize ?_;simp only [Act.put]
   go_wp2_with fail
   refine HTC.out.mono ?_;rintro e w7 ⟨rfl,E7⟩;have g0 := HC0.out _ (HY.out.trans E7);have g2 := HC2.out _ (HY.out.trans E7);have HZ := hide (HXY.out.trans E7);clear f1 E7 HTC HY HXY
   cases bt with
   | false =>
    go_wp2;go_ret
    exact ⟨by rw [<- HR3.out]; rfl,HZ.out⟩
   | true =>
    go_wp2_with (go_at_call 30; refine (HW.out _ _ _ _).mono ?_; rintro e w' ⟨rfl,rfl⟩)
    all_goals go_ret
    all_goals exact ⟨by rw [<- HR3.out]; simp_all,HZ.out⟩
theorem service16_any (c : ConfD) (i : Nat) (hi : i < c.S.length) (w : World) (hS : Svcs w c.sv c.S) (hK : Strs w c.S[i].kv c.S[i].K) (hZ : ∀ p ∈ c.S[i].K,SzB p) :
  Calls Tryz.prog 26 #[c.val,.int .i64 i] w fun e w' => e = .returned (.bool (svcB (c.S.take i) c.S[i])) /\ Ext w w' := by
 obtain ⟨hl63,aS,cS,hvS⟩ := hS.shape;have HW := hide (fun (n lo hi : Int) (w : World) => in16_any n lo hi w);obtain ⟨rr,hrr⟩ : ∃ z,svcB (c.S.take i) c.S[i] = z := ⟨_,rfl⟩;rw [hrr];have HRR := hide hrr;clear hrr;have hx : Ext w (w.alloc (.cells #[c.sv,c.ev,c.rv,c.tv,.int .i64 c.w0,.int .i64 c.w1,.int .i64 c.w2,.int .i64 c.w3,.int .i64 c.w4,.int .i64 c.w5,.int .i64 c.w6,.int .i64 c.panic,.int .i64 c.low,.int .i64 c.high,.int .i64 c.wait,.int .i64 c.hop,.int .i64 c.life,.int .i64 c.purse,.int .i64 c.horizon,.int .i64 c.sample] 30)) := za;have hbx : BoxC (w.alloc (.cells #[c.sv,c.ev,c.rv,c.tv,.int .i64 c.w0,.int .i64 c.w1,.int .i64 c.w2,.int .i64 c.w3,.int .i64 c.w4,.int .i64 c.w5,.int .i64 c.w6,.int .i64 c.panic,.int .i64 c.low,.int .i64 c.high,.int .i64 c.wait,.int .i64 c.hop,.int .i64 c.life,.int .i64 c.purse,.int .i64 c.horizon,.int .i64 c.sample] 30)) w.heap.size c := heap_alloc_new w _
 have q1 : (w.alloc (.cells #[c.sv,c.ev,c.rv,c.tv,.int .i64 c.w0,.int .i64 c.w1,.int .i64 c.w2,.int .i64 c.w3,.int .i64 c.w4,.int .i64 c.w5,.int .i64 c.w6,.int .i64 c.panic,.int .i64 c.low,.int .i64 c.high,.int .i64 c.wait,.int .i64 c.hop,.int .i64 c.life,.int .i64 c.purse,.int .i64 c.horizon,.int .i64 c.sample] 30)).cell? ⟨w.heap.size,0,none⟩ = some (.slice aS c.S.length cS) := by
  rw [<- hvS];exact hbx.cell 0 _ rfl
 rw [hvS] at hS;clear hvS;show Calls Tryz.prog 26 #[.agg #[c.sv,c.ev,c.rv,c.tv,.int .i64 c.w0,.int .i64 c.w1,.int .i64 c.w2,.int .i64 c.w3,.int .i64 c.w4,.int .i64 c.w5,.int .i64 c.w6,.int .i64 c.panic,.int .i64 c.low,.int .i64 c.high,.int .i64 c.wait,.int .i64 c.hop,.int .i64 c.life,.int .i64 c.purse,.int .i64 c.horizon,.int .i64 c.sample],.int .i64 i] w _
 go_enter Tryz.func26,Tryz.ntmps26
 go_upto_region 1 with (fail)
 generalize w.alloc (.cells #[c.sv,c.ev,c.rv,c.tv,.int .i64 c.w0,.int .i64 c.w1,.int .i64 c.w2,.int .i64 c.w3,.int .i64 c.w4,.int .i64 c.w5,.int .i64 c.w6,.int .i64 c.panic,.int .i64 c.low,.int .i64 c.high,.int .i64 c.wait,.int .i64 c.hop,.int .i64 c.life,.int .i64 c.purse,.int .i64 c.horizon,.int .i64 c.sample] 30) = W at hx hbx q1 ⊢;obtain ⟨bx,hbe⟩ : ∃ b,w.heap.size = b := ⟨_,rfl⟩;rw [hbe] at hbx q1 ⊢;have HX := hide hx;have HBX := hide hbx;have HSS := hide (hS.ext hx);have hKW := hK.ext hx;have hiz : (i : Int) < c.S.length := by omega
 obtain ⟨b,off,rfl,hbb,hrS⟩ := svcs_at HSS.out i hi;obtain ⟨y,hy⟩ : ∃ y,c.S[i] = y := ⟨_,rfl⟩;rw [hy] at hrS HRR hKW hZ;clear hy hK;obtain ⟨S,hSe⟩ : ∃ S,c.S = S := ⟨_,rfl⟩;rw [hSe] at hi hiz q1 HSS HRR hl63;clear hS hx hbx hSe;obtain ⟨yid,kv,K,wk,sl,qu,ba,wa⟩ := y;simp only [] at hKW hZ;obtain ⟨hlK,ak,ck,rfl⟩ := hKW.shape;have c0 : W.cell? ⟨b,off + i * 7,none⟩ = some (.int .i64 yid) := hrS 0 _ rfl;have c1 : W.cell? ⟨b,off + i * 7 + 1,none⟩ = some (.slice ak K.length ck) := hrS 1 _ rfl;have c2 : W.cell? ⟨b,off + i * 7 + 2,none⟩ = some (.int .i64 wk) := hrS 2 _ rfl;have c3 : W.cell? ⟨b,off + i * 7 + 3,none⟩ = some (.int .i64 sl) := hrS 3 _ rfl;have c4 : W.cell? ⟨b,off + i * 7 + 4,none⟩ = some (.int .i64 qu) := hrS 4 _ rfl;have c5 : W.cell? ⟨b,off + i * 7 + 5,none⟩ = some (.int .i64 ba) := hrS 5 _ rfl;have c6 : W.cell? ⟨b,off + i * 7 + 6,none⟩ = some (.int .i64 wa) := hrS 6 _ rfl;have hal : Ext W (W.alloc (.cells #[.int .i64 yid,.slice ak K.length ck,.int .i64 wk,.int .i64 sl,.int .i64 qu,.int .i64 ba,.int .i64 wa] 51)) := za;have hb5 := heap_alloc_new W (.cells #[.int .i64 yid,.slice ak K.length ck,.int .i64 wk,.int .i64 sl,.int .i64 qu,.int .i64 ba,.int .i64 wa] 51);have hbw := hal.cell (p := ⟨bx,0,none⟩) (World.block_lt_of_cell? W _ q1);have HKW := hide hKW;have HZ := hide hZ;clear hKW hZ hrS
 go_upto_region 2 with (fail)
 generalize W.alloc (.cells #[.int .i64 yid,.slice ak K.length ck,.int .i64 wk,.int .i64 sl,.int .i64 qu,.int .i64 ba,.int .i64 wa] 51) = W2 at hal hb5 hbw ⊢;obtain ⟨b5,hb5e⟩ : ∃ b,W.heap.size = b := ⟨_,rfl⟩;rw [hb5e] at hb5 ⊢;rw [q1] at hbw;have HQ1 := hide (show ∀ X,Ext W2 X -> X.cell? ⟨bx,0,none⟩ = some (.slice (some ⟨b,off,none⟩) S.length cS) from fun X hX => (hX.cell (p := ⟨bx,0,none⟩) (World.block_lt_of_cell? W2 _ hbw)).trans hbw);have e0 : W2.cell? ⟨b5,0,none⟩ = some (.int .i64 yid) := by simp only [World.cell?,hb5]; rfl
 have HC0 := hide (show ∀ X,Ext W2 X -> X.cell? ⟨b5,0,none⟩ = some (.int .i64 yid) from fun X hX => (hX.cell (p := ⟨b5,0,none⟩) (World.block_lt_of_cell? W2 _ e0)).trans e0);have e1 : W2.cell? ⟨b5,1,none⟩ = some (.slice ak K.length ck) := by simp only [World.cell?,hb5]; rfl
 have HC1 := hide (show ∀ X,Ext W2 X -> X.cell? ⟨b5,1,none⟩ = some (.slice ak K.length ck) from fun X hX => (hX.cell (p := ⟨b5,1,none⟩) (World.block_lt_of_cell? W2 _ e1)).trans e1);have e2 : W2.cell? ⟨b5,2,none⟩ = some (.int .i64 wk) := by simp only [World.cell?,hb5]; rfl
 have HC2 := hide (show ∀ X,Ext W2 X -> X.cell? ⟨b5,2,none⟩ = some (.int .i64 wk) from fun X hX => (hX.cell (p := ⟨b5,2,none⟩) (World.block_lt_of_cell? W2 _ e2)).trans e2);have e3 : W2.cell? ⟨b5,3,none⟩ = some (.int .i64 sl) := by simp only [World.cell?,hb5]; rfl
 have HC3 := hide (show ∀ X,Ext W2 X -> X.cell? ⟨b5,3,none⟩ = some (.int .i64 sl) from fun X hX => (hX.cell (p := ⟨b5,3,none⟩) (World.block_lt_of_cell? W2 _ e3)).trans e3);have e4 : W2.cell? ⟨b5,4,none⟩ = some (.int .i64 qu) := by simp only [World.cell?,hb5]; rfl
 have HC4 := hide (show ∀ X,Ext W2 X -> X.cell? ⟨b5,4,none⟩ = some (.int .i64 qu) from fun X hX => (hX.cell (p := ⟨b5,4,none⟩) (World.block_lt_of_cell? W2 _ e4)).trans e4);have e5 : W2.cell? ⟨b5,5,none⟩ = some (.int .i64 ba) := by simp only [World.cell?,hb5]; rfl
 have HC5 := hide (show ∀ X,Ext W2 X -> X.cell? ⟨b5,5,none⟩ = some (.int .i64 ba) from fun X hX => (hX.cell (p := ⟨b5,5,none⟩) (World.block_lt_of_cell? W2 _ e5)).trans e5);have e6 : W2.cell? ⟨b5,6,none⟩ = some (.int .i64 wa) := by simp only [World.cell?,hb5]; rfl
 have HC6 := hide (show ∀ X,Ext W2 X -> X.cell? ⟨b5,6,none⟩ = some (.int .i64 wa) from fun X hX => (hX.cell (p := ⟨b5,6,none⟩) (World.block_lt_of_cell? W2 _ e6)).trans e6);have HX2 := hide (HX.out.trans hal);have HS2 := hide (HSS.out.ext hal);have HK2 := hide (HKW.out.ext hal);clear hb5 e0 e1 e2 e3 e4 e5 e6 hbw hal c0 c1 c2 c3 c4 c5 c6 q1 hbb HSS HKW hb5e
 go_wp2_with fail
 go_loopw [6] (fun v6 wr => ∃ k : Nat,k <= i /\ v6 = .int .i64 k /\ Hid (thereB (S.take k) yid = false) /\ Hid (Ext W2 wr)) (fun j _ => i - (intOf j).toNat)
 case atStart => exact ⟨0,Nat.zero_le _,rfl,(show thereB (S.take 0) yid = false from by simp [thereB]),zb⟩
 case round =>
  obtain ⟨k,hk,rfl,hno,hxx⟩ := hrel;have HNO := hide hno.out;have HY := hide hxx.out;clear hno hxx;generalize wr = wo at *;by_cases hlt : k < i
  ·have hkz : (k : Int) < i := (by omega);have hkl : (k : Int) < S.length := (by omega);have hk0 : (0 : Int) <= k := (by omega);have hwk : IntKind.i64.wrap ((k : Int) + 1) = ((k + 1 : Nat) : Int) := (by rw [IntKind.wrap_i64]; omega);have hkE : k < S.length := (by omega);obtain ⟨b',off',hbe',-,hrk⟩ := svcs_at (HS2.out.ext HY.out) k hkE;cases hbe';have d0 : wo.cell? ⟨b,off + k * 7,none⟩ = some (.int .i64 S[k].id) := hrk 0 _ rfl;have hst := thereB_take S k hkE yid
   have hinn : (S[k].id == yid) = true -> thereB (S.take i) yid = true := fun h =>
    List.any_eq_true.2 ⟨S[k],by rw [List.mem_iff_getElem]; exact ⟨k,by rw [List.length_take]; omega,by rw [List.getElem_take]⟩,h⟩
   rw [HNO.out,Bool.false_or] at hst;obtain ⟨x,hx⟩ : ∃ x,S[k].id = x := ⟨_,rfl⟩;rw [hx] at d0 hst hinn;have HST := hide hst;have HIN := hide hinn;have q1 := HQ1.out _ HY.out;have f0 := HC0.out _ HY.out;clear hst hinn hx HNO hkE hrk;by_cases e : x = yid
   ·have e1 : (x == yid) = true := (by simpa using e);have h1 := HIN.out e1
    have hz : svcB (S.take i) ⟨yid,.slice ak K.length ck,K,wk,sl,qu,ba,wa⟩ = false := by
     unfold svcB;simp only [h1];simp
    have hrr := HRR.out;rw [hz] at hrr;have HR3 := hide hrr;clear e h1 HIN HST hz hrr
    go_upto_region 5 with (fail)
    go_quiet (fail)
    go_wp2;go_ret;exact ⟨by rw [<- HR3.out]; rfl,HX2.out.trans (Below.drewN' HY.out _)⟩
   ·have e1 : (x == yid) = false := (by simpa using e);clear e HIN
    go_upto_region 5 with (fail)
    go_quiet (fail)
    go_wp2
    go_roundw
    case rel => exact ⟨k + 1,by omega,by go_num,(show thereB (S.take (k + 1)) yid = false from by rw [HST.out,e1]),Below.drewN' HY.out _⟩
    case measure => (simp [intOf]) <;> omega
  ·obtain rfl : k = i := (by omega);have hno := HNO.out
   have hb : svcB (S.take k) ⟨yid,.slice ak K.length ck,K,wk,sl,qu,ba,wa⟩ = ((K.all fun p => isPath (bl p)) && (inB 1 10 yid && decide (K.length <= 4) && inB 1 100 wk && inB 1 20 sl && inB 1 50 qu && inB 1 3 ba && inB 0 100 wa)) := by
    unfold svcB;simp only [hno];cases inB 1 10 yid <;> cases decide (K.length <= 4) <;> cases (K.all fun p => isPath (bl p)) <;> rfl
   have hrr := HRR.out;rw [hb] at hrr;have HR3 := hide hrr;clear hno hb hrr HNO HQ1 hlt HRR;have f1 := HC1.out _ HY.out
   go_wp2_with fail
   go_loopw [7] (fun v7 wr => ∃ k : Nat,k <= K.length /\ v7 = .int .i64 k /\ Hid (∀ p ∈ K.take k,isPath (bl p) = true) /\ Hid (Ext W2 wr)) (fun j _ => K.length - (intOf j).toNat)
   case atStart => exact ⟨0,Nat.zero_le _,rfl,(show ∀ p ∈ K.take 0,isPath (bl p) = true from fun p hp => by simp at hp),HY.out⟩
   case round =>
    clear f1;obtain ⟨j,hj,rfl,hall,hxx⟩ := hrel;clear HY;have HALL := hide hall.out;have HY := hide hxx.out;clear hall hxx;generalize wr = wq at *;have f1 := HC1.out _ HY.out;by_cases hlt : j < K.length
    ·have hjz : (j : Int) < K.length := (by omega);have hwj : IntKind.i64.wrap ((j : Int) + 1) = ((j + 1 : Nat) : Int) := (by rw [IntKind.wrap_i64]; omega);obtain ⟨bk,ok,rfl,hbk,d1⟩ := strs_at (HK2.out.ext HY.out) j hlt;have hcl := path5_any K[j] wq (HZ.out _ (List.getElem_mem hlt))
     have hsn : ∀ t,isPath (bl K[j]) = t -> (t = true -> ∀ p ∈ K.take (j + 1),isPath (bl p) = true) /\ (t = false -> (K.all fun p => isPath (bl p)) = false) := fun t ht => ⟨fun h0 p hp => by
      rw [take_snoc K j hlt] at hp;rcases List.mem_append.1 hp with hp | hp
      ·exact HALL.out p hp
      ·rw [List.mem_singleton.1 hp,ht,h0],fun h0 => by
      rw [List.all_eq_false]
      exact ⟨K[j],List.getElem_mem hlt,by rw [ht,h0]; decide⟩⟩
     obtain ⟨p,hp⟩ : ∃ p,K[j] = p := ⟨_,rfl⟩;rw [hp] at d1 hcl hsn;obtain ⟨t,ht⟩ : ∃ t,isPath (bl p) = t := ⟨_,rfl⟩;have ht' : isPath p.data.toList = t := ht;rw [ht'] at hcl;have HSN := hide (hsn t ht);have HCL := hide hcl;have HWJ := hide hwj;clear hcl hsn hp ht ht' hwj HALL
     go_wp2_with fail
     refine HCL.out.mono ?_;rintro e w7 ⟨rfl,E7⟩;have HZ7 := hide (HY.out.trans E7);have hwj := HWJ.out;clear d1 f1 E7 HCL HY
     cases t with
     | false =>
      have h0 := HSN.out.2 (by first | rfl | trivial);have hrr := HR3.out;rw [h0,Bool.false_and] at hrr;have HR4 := hide hrr;clear hrr h0;go_wp2;go_ret
      exact ⟨by rw [<- HR4.out]; rfl,HX2.out.trans HZ7.out⟩
     | true =>
      go_wp2
      go_roundw
      case rel => exact ⟨j + 1,by omega,by go_num,(show ∀ p ∈ K.take (j + 1),isPath (bl p) = true from HSN.out.1 (by first | rfl | trivial)),HZ7.out⟩
      case measure => (simp [intOf]) <;> omega
    ·obtain rfl : j = K.length := by omega
     have hal : (K.all fun p => isPath (bl p)) = true := by
      rw [List.all_eq_true];intro p hp;exact HALL.out p (by rw [List.take_length]; exact hp)
     have hrr := HR3.out;rw [hal,Bool.true_and] at hrr;have f0 := HC0.out _ HY.out;have f2 := HC2.out _ HY.out;have f3 := HC3.out _ HY.out;have f4 := HC4.out _ HY.out;have f5 := HC5.out _ HY.out;have f6 := HC6.out _ HY.out;have HZZ := hide (HX2.out.trans HY.out);clear hal HALL HY hlt;by_cases h4 : K.length <= 4
     ·have h4z : (K.length : Int) <= 4 := (by omega);rw [decide_eq_true h4] at hrr;have HR4 := hide hrr;clear hrr h4
      go_wp2_with (go_at_call 30; refine (HW.out _ _ _ _).mono ?_; rintro e w' ⟨rfl,rfl⟩)
      all_goals go_ret
      all_goals exact ⟨by rw [<- HR4.out]; simp_all,HZZ.out⟩
     ·have h4z : ¬ (K.length : Int) <= 4 := (by omega);rw [decide_eq_false h4] at hrr;have HR4 := hide hrr;clear hrr h4
      go_wp2_with (go_at_call 30; refine (HW.out _ _ _ _).mono ?_; rintro e w' ⟨rfl,rfl⟩)
      all_goals go_ret
      all_goals exact ⟨by rw [<- HR4.out]; simp_all,HZZ.out⟩
theorem frame33 (x : Nat -> Value) : frameOf 33 x = #[x 0,x 1,x 2,x 3,x 4,x 5,x 6,x 7,x 8,x 9,x 10,x 11,x 12,x 13,x 14,x 15,x 16,x 17,x 18,x 19,x 20,x 21,x 22,x 23,x 24,x 25,x 26,x 27,x 28,x 29,x 30,x 31,x 32] := rfl
theorem leads16_any (c : ConfD) (r : RuleD) (w : World) (hS : Svcs w c.sv c.S) (hok : RuleOk w r) :
  Calls Tryz.prog 29 #[c.val,r.val] w fun e w' => e = .returned (.bool (leadB c.S r)) /\ Ext w w' := by
 obtain ⟨cd,hcd1,hcd2⟩ := Tryz.confDesc;have HTH := hide (fun (id : Int) (X : World) (hX : Ext w X) => there16_any c id X (hS.ext hX));clear hS;obtain ⟨path,ex,hv,H,pv,P,mi,ab,de,ti,pre,sv,S1,dv,D,q0,q1,q2,q3,q4,q5,q6,rate⟩ := r;obtain ⟨hH,hP,hS,hD⟩ := hok;simp only [RuleD.val] at *;obtain ⟨_,a1,c1,rfl⟩ := hH.shape;obtain ⟨hlp,ap,cp,rfl⟩ := hP.shape;obtain ⟨_,a3,c3,rfl⟩ := hS.shape;obtain ⟨_,a4,c4,rfl⟩ := hD.shape;unfold leadB;simp only [];obtain ⟨S,hSe⟩ : ∃ S,c.S = S := ⟨_,rfl⟩;rw [hSe] at HTH ⊢;clear hSe;obtain ⟨rr,hrr⟩ : ∃ z,((P.all fun p => thereB S p.1) && (mi == 0 || thereB S mi)) = z := ⟨_,rfl⟩;rw [hrr];have HRR := hide hrr;clear hrr;have hx : Ext w ((w.alloc (.cells #[c.sv,c.ev,c.rv,c.tv,.int .i64 c.w0,.int .i64 c.w1,.int .i64 c.w2,.int .i64 c.w3,.int .i64 c.w4,.int .i64 c.w5,.int .i64 c.w6,.int .i64 c.panic,.int .i64 c.low,.int .i64 c.high,.int .i64 c.wait,.int .i64 c.hop,.int .i64 c.life,.int .i64 c.purse,.int .i64 c.horizon,.int .i64 c.sample] 30)).alloc (.cells #[.string path,.bool ex,.slice a1 H.length c1,.slice ap P.length cp,.int .i64 mi,.int .i64 ab,.int .i64 de,.int .i64 ti,.string pre,.slice a3 S1.length c3,.slice a4 D.length c4,.int .i64 q0,.int .i64 q1,.int .i64 q2,.int .i64 q3,.int .i64 q4,.int .i64 q5,.int .i64 q6,.int .i64 rate] 69)) := za.alloc (Nat.le_of_lt (by simp)) _;have hbx : BoxC ((w.alloc (.cells #[c.sv,c.ev,c.rv,c.tv,.int .i64 c.w0,.int .i64 c.w1,.int .i64 c.w2,.int .i64 c.w3,.int .i64 c.w4,.int .i64 c.w5,.int .i64 c.w6,.int .i64 c.panic,.int .i64 c.low,.int .i64 c.high,.int .i64 c.wait,.int .i64 c.hop,.int .i64 c.life,.int .i64 c.purse,.int .i64 c.horizon,.int .i64 c.sample] 30)).alloc (.cells #[.string path,.bool ex,.slice a1 H.length c1,.slice ap P.length cp,.int .i64 mi,.int .i64 ab,.int .i64 de,.int .i64 ti,.string pre,.slice a3 S1.length c3,.slice a4 D.length c4,.int .i64 q0,.int .i64 q1,.int .i64 q2,.int .i64 q3,.int .i64 q4,.int .i64 q5,.int .i64 q6,.int .i64 rate] 69)) w.heap.size c := (Below.heap_alloc _ _ _ (by simp)).trans (heap_alloc_new w _)
 have hb3 := heap_alloc2_new w (.cells #[c.sv,c.ev,c.rv,c.tv,.int .i64 c.w0,.int .i64 c.w1,.int .i64 c.w2,.int .i64 c.w3,.int .i64 c.w4,.int .i64 c.w5,.int .i64 c.w6,.int .i64 c.panic,.int .i64 c.low,.int .i64 c.high,.int .i64 c.wait,.int .i64 c.hop,.int .i64 c.life,.int .i64 c.purse,.int .i64 c.horizon,.int .i64 c.sample] 30) (.cells #[.string path,.bool ex,.slice a1 H.length c1,.slice ap P.length cp,.int .i64 mi,.int .i64 ab,.int .i64 de,.int .i64 ti,.string pre,.slice a3 S1.length c3,.slice a4 D.length c4,.int .i64 q0,.int .i64 q1,.int .i64 q2,.int .i64 q3,.int .i64 q4,.int .i64 q5,.int .i64 q6,.int .i64 rate] 69);have hPW := hP.ext hx;clear hH hP hS hD;show Calls Tryz.prog 29 #[.agg #[c.sv,c.ev,c.rv,c.tv,.int .i64 c.w0,.int .i64 c.w1,.int .i64 c.w2,.int .i64 c.w3,.int .i64 c.w4,.int .i64 c.w5,.int .i64 c.w6,.int .i64 c.panic,.int .i64 c.low,.int .i64 c.high,.int .i64 c.wait,.int .i64 c.hop,.int .i64 c.life,.int .i64 c.purse,.int .i64 c.horizon,.int .i64 c.sample],.agg #[.string path,.bool ex,.slice a1 H.length c1,.slice ap P.length cp,.int .i64 mi,.int .i64 ab,.int .i64 de,.int .i64 ti,.string pre,.slice a3 S1.length c3,.slice a4 D.length c4,.int .i64 q0,.int .i64 q1,.int .i64 q2,.int .i64 q3,.int .i64 q4,.int .i64 q5,.int .i64 q6,.int .i64 rate]] w _
 go_enter Tryz.func29,Tryz.ntmps29
 go_upto_region 1 with (fail)
 generalize (w.alloc (.cells #[c.sv,c.ev,c.rv,c.tv,.int .i64 c.w0,.int .i64 c.w1,.int .i64 c.w2,.int .i64 c.w3,.int .i64 c.w4,.int .i64 c.w5,.int .i64 c.w6,.int .i64 c.panic,.int .i64 c.low,.int .i64 c.high,.int .i64 c.wait,.int .i64 c.hop,.int .i64 c.life,.int .i64 c.purse,.int .i64 c.horizon,.int .i64 c.sample] 30)).alloc (.cells #[.string path,.bool ex,.slice a1 H.length c1,.slice ap P.length cp,.int .i64 mi,.int .i64 ab,.int .i64 de,.int .i64 ti,.string pre,.slice a3 S1.length c3,.slice a4 D.length c4,.int .i64 q0,.int .i64 q1,.int .i64 q2,.int .i64 q3,.int .i64 q4,.int .i64 q5,.int .i64 q6,.int .i64 rate] 69) = W at hx hbx hb3 hPW ⊢;obtain ⟨bx,hbe⟩ : ∃ b,w.heap.size = b := ⟨_,rfl⟩;rw [hbe] at hbx hb3 ⊢;obtain ⟨b3,hb3e⟩ : ∃ b,bx + 1 = b := ⟨_,rfl⟩;rw [hb3e] at hb3 ⊢;have HX := hide hx;have HBX := hide hbx;have HPW := hide hPW;have e3 : W.cell? ⟨b3,3,none⟩ = some (.slice ap P.length cp) := by simp only [World.cell?,hb3]; rfl
 have e4 : W.cell? ⟨b3,4,none⟩ = some (.int .i64 mi) := by simp only [World.cell?,hb3]; rfl
 have HC3 := hide (show ∀ X,Ext W X -> X.cell? ⟨b3,3,none⟩ = some (.slice ap P.length cp) from fun X hX => (hX.cell (p := ⟨b3,3,none⟩) (World.block_lt_of_cell? W _ e3)).trans e3);have HC4 := hide (show ∀ X,Ext W X -> X.cell? ⟨b3,4,none⟩ = some (.int .i64 mi) from fun X hX => (hX.cell (p := ⟨b3,4,none⟩) (World.block_lt_of_cell? W _ e4)).trans e4);clear hx hbx hb3 hPW e3 e4 hbe hb3e
 go_wp2_with fail
 go_loopw [5] (fun v5 wr => ∃ k : Nat,k <= P.length /\ v5 = .int .i64 k /\ Hid (∀ p ∈ P.take k,thereB S p.1 = true) /\ Hid (Ext W wr)) (fun j _ => P.length - (intOf j).toNat)
 case atStart => exact ⟨0,Nat.zero_le _,rfl,(show ∀ p ∈ P.take 0,thereB S p.1 = true from fun p hp => by simp at hp),zb⟩
 case round =>
  obtain ⟨k,hk,rfl,hall,hxx⟩ := hrel;have HALL := hide hall.out;have HY := hide hxx.out;clear hall hxx;generalize wr = wo at *;have f3 := HC3.out _ HY.out;by_cases hlt : k < P.length
  ·have hkz : (k : Int) < P.length := (by omega);have hwk : IntKind.i64.wrap ((k : Int) + 1) = ((k + 1 : Nat) : Int) := by rw [IntKind.wrap_i64]; omega
   obtain ⟨b,off,rfl,hbb,hcc⟩ : ∃ b off,ap = some ⟨b,off,none⟩ /\ b < W.heap.size /\ W.cell? ⟨b,off + k * 2,none⟩ = some (.int .i64 P[k].1) := by
    obtain ⟨_,a',cap',hv,_,hc⟩ := HPW.out;cases hv;obtain ⟨b,off,ha,hb,hc⟩ := hc k P[k] (List.getElem?_eq_getElem hlt);exact ⟨b,off,ha,hb,by simpa using hc 0 _ rfl⟩
   have hsn : ∀ t,thereB S P[k].1 = t -> (t = true -> ∀ p ∈ P.take (k + 1),thereB S p.1 = true) /\ (t = false -> (P.all fun p => thereB S p.1) = false) := fun t ht => ⟨fun h0 p hp => by
    rw [take_snoc P k hlt] at hp;rcases List.mem_append.1 hp with hp | hp
    ·exact HALL.out p hp
    ·rw [List.mem_singleton.1 hp,ht,h0],fun h0 => by
    rw [List.all_eq_false]
    exact ⟨P[k],List.getElem_mem hlt,by rw [ht,h0]; decide⟩⟩
   obtain ⟨p1,hp1⟩ : ∃ p1,P[k].1 = p1 := ⟨_,rfl⟩;rw [hp1] at hcc hsn;have hth := HTH.out p1;obtain ⟨bt,hbt⟩ : ∃ t,thereB S p1 = t := ⟨_,rfl⟩;rw [hbt] at hth;have HSN := hide (hsn bt hbt);have HTC := hide (fun (X : World) (hX : Ext wo X) => hth X (HX.out.trans (HY.out.trans hX)));have HQ3 := hide (fun (X : World) (hX : Ext wo X) => HC3.out X (HY.out.trans hX));have hcc2 : wo.cell? ⟨b,off + k * 2,none⟩ = some (.int .i64 p1) := (HY.out.cell (p := ⟨b,off + k * 2,none⟩) hbb).trans hcc;have HD0 := hide (show ∀ X,Ext wo X -> X.cell? ⟨b,off + k * 2,none⟩ = some (.int .i64 p1) from fun X hX => (hX.cell (p := ⟨b,off + k * 2,none⟩) (World.block_lt_of_cell? wo _ hcc2)).trans hcc2);have HBW := hide (HBX.out.ext HY.out);have HKZ := hide (show (0 : Int) <= (k : Int) /\ (k : Int) < P.length from ⟨by omega,hkz⟩);have HWK := hide hwk;clear hsn hth hbt hcc hcc2 hp1 hbb hwk HALL
   go_upto_region 4 with (fail)
   clear f3;refine wp_region_rw 33 [] [6,14,15,16,17,18,19,20,21] (fun _ w' => Ext wo w') (fun (t : Nat) (wI : World) (v : Value) => match t with | 6 => v = (.bool bt) | 14 => v = (.agg #[c.sv,c.ev,c.rv,c.tv,.int .i64 c.w0,.int .i64 c.w1,.int .i64 c.w2,.int .i64 c.w3,.int .i64 c.w4,.int .i64 c.w5,.int .i64 c.w6,.int .i64 c.panic,.int .i64 c.low,.int .i64 c.high,.int .i64 c.wait,.int .i64 c.hop,.int .i64 c.life,.int .i64 c.purse,.int .i64 c.horizon,.int .i64 c.sample]) | 15 => v = (.pointer (some ⟨b3,3,none⟩)) | 16 => v = (.slice (some ⟨b,off,none⟩) P.length cp) | 17 => v = (.int .i64 (k : Int)) | 18 => v = (.pointer (some ⟨b,off + k * 2,none⟩)) | 19 => v = (.pointer (some ⟨b,off + k * 2,none⟩)) | 20 => v = (.int .i64 p1) | 21 => v = (.bool bt) | _ => True) (fun w' w'' => Ext w' w'') (by kernel_rfl) rfl (by kernel_rfl) (by kernel_rfl) (by kernel_rfl) (by kernel_rfl) ?_ ?_ ?_ ?_ ?_ ?_ ?_
   ·intro w' w'' h;exact h
   ·intro t w' w'' v hR hv;exact hv
   ·intro vs w' w'' h e;exact Ext.trans (show Ext _ w' from h) e
   ·exact zb.drew
   ·intro i o ho hmi vs X w' hpk hph hX hI hF K hK;have hin : i < 9 := (zg ho);rcases zo hin with rfl | rfl | rfl | rfl | rfl | rfl | rfl | rfl | rfl
    all_goals first | (exact absurd hmi (by decide)) | (obtain rfl := Option.some.inj ho; unfold wpOp; simp only [ho]; rw [if_pos (by rfl)]; left; rw [frame33])
    ·have e2 : X 2 = (.pointer (some ⟨bx,0,none⟩)) := zk3 (hF 2);have hx : Ext wo w' := hph;refine wp_load_mid 30 (.tmp 2) rfl bx 0 e2 (encC c) cd ((HBW.out.ext hx).range) hcd1 hcd2 Tryz.confSize (metK (hK.out (.agg #[c.sv,c.ev,c.rv,c.tv,.int .i64 c.w0,.int .i64 c.w1,.int .i64 c.w2,.int .i64 c.w3,.int .i64 c.w4,.int .i64 c.w5,.int .i64 c.w6,.int .i64 c.panic,.int .i64 c.low,.int .i64 c.high,.int .i64 c.wait,.int .i64 c.hop,.int .i64 c.life,.int .i64 c.purse,.int .i64 c.horizon,.int .i64 c.sample]) _ zb (fun d hd => by cases hd; exact rfl)) ?_);simp [frame33,Act.put, *];rfl
    ·have e3 : X 3 = (.pointer (some ⟨b3,0,none⟩)) := zk3 (hF 3);go_simp;refine zm1 hK ((.pointer (some ⟨b3,3,none⟩))) ?_;simp [frame33,Act.put, *]
    ·have e15 : X 15 = _ := zk2 (hI 15);have hx : Ext wo w' := hph;have z := HQ3.out w' hx;go_simp;refine zm1 hK ((.slice (some ⟨b,off,none⟩) P.length cp)) ?_;simp [frame33,Act.put, *]
    ·have e5 : X 5 = (.int .i64 (k : Int)) := zk3 (hF 5);go_simp;refine zm1 hK ((.int .i64 (k : Int))) ?_;simp [frame33,Act.put, *]
    ·have e16 : X 16 = _ := zk2 (hI 16);have e17 : X 17 = _ := zk2 (hI 17);have hz0 := HKZ.out.1;have hz1 := HKZ.out.2;go_simp;refine zm1 hK ((.pointer (some ⟨b,off + k * 2,none⟩))) ?_;simp [frame33,Act.put, *]
    ·have e18 : X 18 = _ := zk2 (hI 18);go_simp;refine zm1 hK ((.pointer (some ⟨b,off + k * 2,none⟩))) ?_;simp [frame33,Act.put, *]
    ·have e19 : X 19 = _ := zk2 (hI 19);have hx : Ext wo w' := hph;have z := HD0.out w' hx;go_simp;refine zm1 hK ((.int .i64 p1)) ?_;simp [frame33,Act.put, *]
    ·have e14 : X 14 = _ := zk2 (hI 14);have e20 : X 20 = _ := zk2 (hI 20);have hx : Ext wo w' := hph;go_simp;refine (HTC.out w' hx).mono ?_;rintro e w9 ⟨rfl,E9⟩;refine metK (hK.out (.bool bt) w9 E9 (fun d hd => by cases hd; rfl)) ?_;simp [frame33,Act.put, *]
    ·have e21 : X 21 = _ := zk2 (hI 21);go_simp;refine zm1 hK ((.bool bt)) ?_;simp [frame33,Act.put, *]
   ·intro i o ho hmi vs X w' hqi hql hph hX hI hF K hK;rcases vs with _
    ·simp at hql <;> omega
   ·intro vs X w' hlen hph hX hI;have e6 : X 6 = _ := zk4 (hI 6);have e14 : X 14 = _ := zk4 (hI 14);have e15 : X 15 = _ := zk4 (hI 15);have e16 : X 16 = _ := zk4 (hI 16);have e17 : X 17 = _ := zk4 (hI 17);have e18 : X 18 = _ := zk4 (hI 18);have e19 : X 19 = _ := zk4 (hI 19);have e20 : X 20 = _ := zk4 (hI 20);have e21 : X 21 = _ := zk4 (hI 21);rcases vs with _ | ⟨vz,vs⟩
    rotate_left
    ·simp at hlen
    clear hX hI hlen;simp only [overF,List.foldl_cons,List.foldl_nil,List.setIfInBounds_toArray,List.set_cons_succ,List.set_cons_zero,e6,e14,e15,e16,e17,e18,e19,e20,e21];have hx9 : Ext wo w' := hph;clear hph e6 e14 e15 e16 e17 e18 e19 e20 e21;have HZ9 := hide (HY.out.trans hx9);clear hx9 HQ3 HKZ HD0 HBW HTC HY;have hwk := HWK.out
    cases bt with
    | false =>
     have h0 := HSN.out.2 (by first | rfl | trivial);have hrr := HRR.out;rw [h0,Bool.false_and] at hrr;have HR4 := hide hrr;clear hrr h0;go_wp2;go_ret
     exact ⟨by rw [<- HR4.out]; rfl,HX.out.trans HZ9.out⟩
    | true =>
     go_wp2
     go_roundw
     case rel => exact ⟨k + 1,by omega,by go_num,(show ∀ p ∈ P.take (k + 1),thereB S p.1 = true from HSN.out.1 (by first | rfl | trivial)),HZ9.out⟩
     case measure => (simp [intOf]) <;> omega
  ·obtain rfl : k = P.length := by omega
   have hal : (P.all fun p => thereB S p.1) = true := by
    rw [List.all_eq_true];intro p hp;exact HALL.out p (by rw [List.take_length]; exact hp)
   have hrr := HRR.out;rw [hal,Bool.true_and] at hrr;have HR3 := hide hrr;have f4 := HC4.out _ HY.out;have HZ := hide (HX.out.trans HY.out);have HBW := hide (HBX.out.ext HY.out);clear hal hrr HALL hlt;by_cases h0 : mi = 0
   ·have e0 : (mi == 0) = true := (by simpa using h0);have hrr := HR3.out;rw [e0,Bool.true_or] at hrr;have HR4 := hide hrr;clear h0 hrr;go_wp2;go_ret;exact ⟨by rw [<- HR4.out]; rfl,HZ.out⟩
   ·have e0 : (mi == 0) = false := (by simpa using h0);have hrr := HR3.out;rw [e0,Bool.false_or] at hrr;have HR4 := hide hrr;have hth := HTH.out mi wo HZ.out;have HTC := hide hth;clear h0 hrr hth
    go_upto_region 7 with (fail)
    go_wp2_with (first | (refine BigFrame.wpList_want (by rfl) fun K hK => ?_; refine wp_load_mid 30 (.tmp 2) rfl bx 0 rfl (encC c) cd (HBW.out.range) hcd1 hcd2 Tryz.confSize ?_; refine hK _ _ ?_; simp only [Act.put]))
    refine HTC.out.mono ?_;rintro e w7 ⟨rfl,E7⟩;have HE7 := hide E7;clear E7;go_wp2;go_ret;exact ⟨by rw [<- HR4.out]; rfl,HZ.out.trans HE7.out⟩
end Go.Proofs.YtoaiakhnnfbkdaaGreatDoor
