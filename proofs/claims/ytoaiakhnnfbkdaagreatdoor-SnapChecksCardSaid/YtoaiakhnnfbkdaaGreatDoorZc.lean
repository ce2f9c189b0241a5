/- Lemmas. -/
import Derived.Test.YtoaiakhnnfbkdaaGreatDoorZb
set_option maxRecDepth 100000
set_option maxHeartbeats 32000000
namespace Go.Proofs.YtoaiakhnnfbkdaaGreatDoor
open Go.ChangeShapes Go.WideShapes Go.ChangeAt Go.RowKit Go.Lib Go.Shelf
structure RuleD where
 path : ByteArray
 ex : Bool
 hv : Value
 H : List HeadD
 pv : Value
 P : List (Int × Int)
 mi : Int
 ab : Int
 de : Int
 ti : Int
 pre : ByteArray
 sv : Value
 S : List HeadD
 dv : Value
 D : List ByteArray
 q0 : Int
 q1 : Int
 q2 : Int
 q3 : Int
 q4 : Int
 q5 : Int
 q6 : Int
 rate : Int
def RuleD.val (r : RuleD) : Value := .agg #[.string r.path,.bool r.ex,r.hv,r.pv,.int .i64 r.mi,.int .i64 r.ab,.int .i64 r.de,.int .i64 r.ti,.string r.pre,r.sv,r.dv,.int .i64 r.q0,.int .i64 r.q1,.int .i64 r.q2,.int .i64 r.q3,.int .i64 r.q4,.int .i64 r.q5,.int .i64 r.q6,.int .i64 r.rate]
def encR (r : RuleD) : List Value := [.string r.path,.bool r.ex,r.hv,r.pv,.int .i64 r.mi,.int .i64 r.ab,.int .i64 r.de,.int .i64 r.ti,.string r.pre,r.sv,r.dv,.int .i64 r.q0,.int .i64 r.q1,.int .i64 r.q2,.int .i64 r.q3,.int .i64 r.q4,.int .i64 r.q5,.int .i64 r.q6,.int .i64 r.rate]
theorem encR_len (r : RuleD) : (encR r).length = 19 := rfl
def RuleOk (w : World) (r : RuleD) : Prop := Heads w r.hv r.H /\ Parts w r.pv r.P /\ Heads w r.sv r.S /\ Strs w r.dv r.D
theorem RuleOk.ext {w w' : World} {r : RuleD} (h : RuleOk w r) (e : Ext w w') : RuleOk w' r := ⟨h.1.ext e,h.2.1.ext e,h.2.2.1.ext e,h.2.2.2.ext e⟩
def SzB (s : ByteArray) : Prop := s.size <= 9223372036854775807
def RuleFit (r : RuleD) : Prop := SzB r.path /\ SzB r.pre /\ HSz r.H /\ HSz r.S /\ (∀ d ∈ r.D,SzB d) /\ (∀ p ∈ r.P,I64 p.1 /\ I64 p.2) /\ r.P.length <= 1000000
def dropB (d : ByteArray) : Bool := mayB (bl d) []
def wrchk (pre : ByteArray) (S : List HeadD) (D : List ByteArray) : Int :=
 if bl pre ≠ [] /\ isPath (bl pre) = false then 10 else if hchk S ≠ 0 then hchk S else if 8 < D.length then 2 else if D.all dropB = true then 0 else 11
theorem namemay_any (s : ByteArray) (w : World) (hs : SzB s) :
  Calls Tryz.prog 111 #[.string s] w fun e w' => e = .returned (.bool (dropB s)) /\ Ext w w' := by
 have hh : Heads (w.alloc (.cells #[.string s,.string ⟨#[]⟩] 114)) (.slice (some ⟨w.heap.size,0,none⟩) [((s,⟨#[]⟩) : HeadD)].length 1) [(s,⟨#[]⟩)] := by
  refine ⟨by simp,_,_,rfl,⟨by simp,by simp⟩,fun i x hi => ⟨w.heap.size,0,rfl,by simp,fun j u hu => ?_⟩⟩
  have hi0 : i = 0 := by
   have := (List.getElem?_eq_some_iff.1 hi).1;simp at this;exact this
  subst hi0;simp at hi;subst hi;have := cells_new w [.string s,.string ⟨#[]⟩] 114 j u hu;rw [add_cell] at this;simpa using this
 have hc := hhchk_any [(s,⟨#[]⟩)] _ _ hh (by
  intro h hm;simp at hm;subst hm
  exact ⟨hs,by show (0 : Nat) <= _; omega⟩)
 have hv : hchk [(s,⟨#[]⟩)] = if dropB s = true then 0 else 11 := by
  unfold hchk;simp only [hchkL,getH,dropB,bl,List.length_singleton];by_cases h : mayB s.data.toList [] = true <;> simp [h]
 rw [hv] at hc;have HC := hide hc;clear hh hc hv
 cases hd : dropB s with
 | true =>
  have hc := HC.out;rw [hd] at hc;have HC := hide hc;clear hc hd
  go_enter Tryz.func111,Tryz.ntmps111
  go_wp2_with fail
  refine HC.out.mono ?_;rintro e w7 ⟨rfl,E7⟩;go_wp2;go_ret
  exact ⟨rfl,Ext.trans za E7⟩
 | false =>
  have hc := HC.out;rw [hd] at hc;have HC := hide hc;clear hc hd
  go_enter Tryz.func111,Tryz.ntmps111
  go_wp2_with fail
  refine HC.out.mono ?_;rintro e w7 ⟨rfl,E7⟩;go_wp2;go_ret;exact ⟨rfl,Ext.trans za E7⟩
theorem wrchk_any (r : RuleD) (w : World) (hok : RuleOk w r) (hf : RuleFit r) (hm : MaxV w) :
  Calls Tryz.prog 85 #[r.val] w fun e w' => e = .returned (.int .i64 (wrchk r.pre r.S r.D)) /\ Ext w w' := by
 obtain ⟨path,ex,hv,H,pv,P,mi,ab,de,ti,pre,sv,S,dv,D,q0,q1,q2,q3,q4,q5,q6,rate⟩ := r;obtain ⟨hH,hP,hS,hD⟩ := hok;obtain ⟨zp,zpre,zH,zS,zD,zP,zl⟩ := hf;simp only [RuleD.val] at *;obtain ⟨_,a1,c1,rfl⟩ := hH.shape;obtain ⟨_,a2,c2,rfl⟩ := hP.shape;obtain ⟨_,a3,c3,rfl⟩ := hS.shape;obtain ⟨hdl,a4,c4,rfl⟩ := hD.shape;have e0 : Ext w (w.alloc (.cells #[.string path,.bool ex,.slice a1 H.length c1,.slice a2 P.length c2,.int .i64 mi,.int .i64 ab,.int .i64 de,.int .i64 ti,.string pre,.slice a3 S.length c3,.slice a4 D.length c4,.int .i64 q0,.int .i64 q1,.int .i64 q2,.int .i64 q3,.int .i64 q4,.int .i64 q5,.int .i64 q6,.int .i64 rate] 69)) := za;generalize hB : (Obj.cells #[.string path,.bool ex,.slice a1 H.length c1,.slice a2 P.length c2,.int .i64 mi,.int .i64 ab,.int .i64 de,.int .i64 ti,.string pre,.slice a3 S.length c3,.slice a4 D.length c4,.int .i64 q0,.int .i64 q1,.int .i64 q2,.int .i64 q3,.int .i64 q4,.int .i64 q5,.int .i64 q6,.int .i64 rate] 69) = B at e0
 have hcx : ∀ X,Ext (w.alloc B) X -> X.cell? ⟨w.heap.size,8,none⟩ = some (.string pre) /\ X.cell? ⟨w.heap.size,9,none⟩ = some (.slice a3 S.length c3) /\ X.cell? ⟨w.heap.size,10,none⟩ = some (.slice a4 D.length c4) := fun X hX => by
  subst hB;exact ⟨(hX.cell (p := ⟨w.heap.size,8,none⟩) (by simp)).trans (by go_simp),(hX.cell (p := ⟨w.heap.size,9,none⟩) (by simp)).trans (by go_simp),(hX.cell (p := ⟨w.heap.size,10,none⟩) (by simp)).trans (by go_simp)⟩
 have hpth : ∀ X,Ext w X -> Calls Tryz.prog 39 #[.string pre] X fun e w' => e = .returned (.bool (isPath (bl pre))) /\ Ext X w' := fun X hX => mpath_any pre X zpre (hm.ext hX);have hhc : ∀ X,Ext w X -> Calls Tryz.prog 108 #[.slice a3 S.length c3] X fun e w' => e = .returned (.int .i64 (hchk S)) /\ Ext X w' := fun X hX => hhchk_any S _ X (hS.ext hX) zS;have hmay : ∀ (X : World) (d : ByteArray),d ∈ D -> Calls Tryz.prog 111 #[.string d] X fun e w' => e = .returned (.bool (dropB d)) /\ Ext X w' := fun X d hd => namemay_any d X (zD d hd);have hfin : ∀ z,z = wrchk pre S D -> ∀ w9,Ext (w.alloc B) w9 -> (Ending.returned (.int .i64 z) = .returned (.int .i64 (wrchk pre S D)) /\ Ext w w9) := fun z hz w9 h9 => ⟨by rw [hz],Ext.trans e0 h9⟩;obtain ⟨ip,hip⟩ : ∃ ip,isPath (bl pre) = ip := ⟨_,rfl⟩;obtain ⟨hc,hhceq⟩ : ∃ hc,hchk S = hc := ⟨_,rfl⟩;rw [hip] at hpth;rw [hhceq] at hhc;have HCX := hide hcx;have HPTH := hide hpth;have HHC := hide hhc;have HMAY := hide hmay;have HFIN := hide hfin;have HIP := hide hip;have HHE := hide hhceq;have HD := hide hD;have HE0 := hide e0;clear hcx hpth hhc hmay hfin hip hhceq hH hP hS hD e0 zp zpre zH zS zD zP zl hm;have HB := hide hB;clear hB;by_cases hp : bl pre = []
 ·have hb1 : pre.toList.isEmpty = true := by rw [toL]; show (bl pre).isEmpty = true; rw [hp]; rfl
  have hb2 : (pre.toList == []) = true := by rw [toL]; show (bl pre == []) = true; rw [hp]; rfl
  have HNE := hide (show ¬ (bl pre ≠ [] /\ ip = false) from fun h => h.1 hp);clear hp
  ·skip
   by_cases h0 : hc = 0
   ·have hne : (hc != 0) = false := (by simp [h0]);by_cases h8 : 8 < D.length
    ·have h8z : (8 : Int) < D.length := (by omega);have HZ := hide (HFIN.out 2 (by unfold wrchk; rw [HHE.out,HIP.out,if_neg HNE.out,if_neg (by simp [h0]),if_pos h8]))
     go_enter Tryz.func85,Tryz.ntmps85
     have hbb := HB.out;subst hbb;clear HB
     go_wp2_with fail
     refine (HHC.out _ HE0.out).mono ?_;rintro e w7 ⟨rfl,E7⟩;obtain ⟨d8,d9,d10⟩ := HCX.out _ E7;go_wp2;go_ret;exact HZ.out _ E7
    ·have h8z : ¬ (8 : Int) < D.length := (by omega);have hv : wrchk pre S D = if D.all dropB = true then 0 else 11 := (by unfold wrchk; rw [HHE.out,HIP.out,if_neg HNE.out,if_neg (by simp [h0]),if_neg h8]);have HV := hide hv;clear hv
     go_enter Tryz.func85,Tryz.ntmps85
     have hbb := HB.out;subst hbb;clear HB
     go_wp2_with fail
     refine (HHC.out _ HE0.out).mono ?_;rintro e w7 ⟨rfl,E7⟩;obtain ⟨d8,d9,d10⟩ := HCX.out _ E7
     go_wp2_with fail
     go_loopw [29] (fun i wr => ∃ k : Nat,k <= D.length /\ i = .int .i64 k /\ (D.take k).all dropB = true /\ Ext (w.alloc (.cells #[.string path,.bool ex,.slice a1 H.length c1,.slice a2 P.length c2,.int .i64 mi,.int .i64 ab,.int .i64 de,.int .i64 ti,.string pre,.slice a3 S.length c3,.slice a4 D.length c4,.int .i64 q0,.int .i64 q1,.int .i64 q2,.int .i64 q3,.int .i64 q4,.int .i64 q5,.int .i64 q6,.int .i64 rate] 69)) wr) (fun i _ => D.length - (intOf i).toNat)
     case atStart => exact ⟨0,by omega,rfl,by simp,E7⟩
     case round =>
      obtain ⟨k,hk,rfl,hall,hext⟩ := hrel;by_cases hlt : k < D.length
      ·obtain ⟨b,off,rfl,hbb,hcs⟩ := strs_at (HD.out.ext (Ext.trans HE0.out hext)) k hlt;obtain ⟨d,hd⟩ : ∃ d,D[k] = d := ⟨_,rfl⟩;have hsn : (D.take (k + 1)).all dropB = dropB d := (by rw [take_snoc D k hlt,List.all_append,hall,hd]; simp);have hbd : dropB d = false -> D.all dropB = false := fun h => (by rw [List.all_eq_false]; exact ⟨D[k],List.getElem_mem hlt,by rw [hd,h]; simp⟩);have hmy := HMAY.out wr d (by rw [<- hd]; exact List.getElem_mem hlt);rw [hd] at hcs;have HSN := hide hsn;have HBD := hide hbd;have HMY := hide hmy;clear hsn hbd hmy hall hd
       cases hdb : dropB d with
       | true =>
        have hmy := HMY.out;rw [hdb] at hmy;have HMY := hide hmy;have HSN := hide (HSN.out.trans hdb);clear hmy hdb
        go_wp2_with fail
        refine HMY.out.mono ?_;rintro e w5 ⟨rfl,E5⟩;go_wp2
        go_roundw
        case rel => exact ⟨k + 1,hlt,by go_num,HSN.out,Ext.trans hext E5⟩
        case measure => simp [intOf]; omega
       | false =>
        have hmy := HMY.out;rw [hdb] at hmy;have HMY := hide hmy;have HBD := hide (HBD.out hdb);clear hmy hdb
        go_wp2_with fail
        refine HMY.out.mono ?_;rintro e w5 ⟨rfl,E5⟩;go_wp2;go_ret;exact HFIN.out 11 (by rw [HV.out,HBD.out]; rfl) _ (Ext.trans hext E5)
      ·obtain rfl : k = D.length := (by omega);rw [List.take_length] at hall;have HAL := hide hall;clear hall;go_wp2;go_ret;exact HFIN.out 0 (by rw [HV.out,HAL.out]; rfl) _ hext
   ·have hne : (hc != 0) = true := (by simp [h0]);have HZ := hide (HFIN.out hc (by unfold wrchk; rw [HHE.out,HIP.out,if_neg HNE.out,if_pos h0]))
    go_enter Tryz.func85,Tryz.ntmps85
    have hbb := HB.out;subst hbb;clear HB
    go_wp2_with fail
    refine (HHC.out _ HE0.out).mono ?_;rintro e w7 ⟨rfl,E7⟩;obtain ⟨d8,d9,d10⟩ := HCX.out _ E7;go_wp2;go_ret;exact HZ.out _ E7
 ·have hb1 : pre.toList.isEmpty = false := by rw [toL]; show (bl pre).isEmpty = false; simpa using hp
  have hb2 : (pre.toList == []) = false := by rw [toL]; show (bl pre == []) = false; simpa using hp
  cases ip with
  | true =>
   have HNE := hide (show ¬ (bl pre ≠ [] /\ true = false) from fun h => by cases h.2);clear hp;by_cases h0 : hc = 0
   ·have hne : (hc != 0) = false := (by simp [h0]);by_cases h8 : 8 < D.length
    ·have h8z : (8 : Int) < D.length := (by omega);have HZ := hide (HFIN.out 2 (by unfold wrchk; rw [HHE.out,HIP.out,if_neg HNE.out,if_neg (by simp [h0]),if_pos h8]))
     go_enter Tryz.func85,Tryz.ntmps85
     have hbb := HB.out;subst hbb;clear HB
     go_wp2_with fail
     refine (HPTH.out _ HE0.out).mono ?_;rintro e w6 ⟨rfl,E6⟩;obtain ⟨f8,f9,f10⟩ := HCX.out _ E6
     go_wp2_with fail
     refine (HHC.out _ (Ext.trans HE0.out E6)).mono ?_;rintro e w7 ⟨rfl,E7a⟩;have E7 := Ext.trans E6 E7a;clear f8 f9 f10;obtain ⟨d8,d9,d10⟩ := HCX.out _ E7;go_wp2;go_ret;exact HZ.out _ E7
    ·have h8z : ¬ (8 : Int) < D.length := (by omega);have hv : wrchk pre S D = if D.all dropB = true then 0 else 11 := (by unfold wrchk; rw [HHE.out,HIP.out,if_neg HNE.out,if_neg (by simp [h0]),if_neg h8]);have HV := hide hv;clear hv
     go_enter Tryz.func85,Tryz.ntmps85
     have hbb := HB.out;subst hbb;clear HB
     go_wp2_with fail
     refine (HPTH.out _ HE0.out).mono ?_;rintro e w6 ⟨rfl,E6⟩;obtain ⟨f8,f9,f10⟩ := HCX.out _ E6
     go_wp2_with fail
     refine (HHC.out _ (Ext.trans HE0.out E6)).mono ?_;rintro e w7 ⟨rfl,E7a⟩;have E7 := Ext.trans E6 E7a;clear f8 f9 f10;obtain ⟨d8,d9,d10⟩ := HCX.out _ E7
     go_wp2_with fail
     go_loopw [29] (fun i wr => ∃ k : Nat,k <= D.length /\ i = .int .i64 k /\ (D.take k).all dropB = true /\ Ext (w.alloc (.cells #[.string path,.bool ex,.slice a1 H.length c1,.slice a2 P.length c2,.int .i64 mi,.int .i64 ab,.int .i64 de,.int .i64 ti,.string pre,.slice a3 S.length c3,.slice a4 D.length c4,.int .i64 q0,.int .i64 q1,.int .i64 q2,.int .i64 q3,.int .i64 q4,.int .i64 q5,.int .i64 q6,.int .i64 rate] 69)) wr) (fun i _ => D.length - (intOf i).toNat)
     case atStart => exact ⟨0,by omega,rfl,by simp,E7⟩
     case round =>
      obtain ⟨k,hk,rfl,hall,hext⟩ := hrel;by_cases hlt : k < D.length
      ·obtain ⟨b,off,rfl,hbb,hcs⟩ := strs_at (HD.out.ext (Ext.trans HE0.out hext)) k hlt;obtain ⟨d,hd⟩ : ∃ d,D[k] = d := ⟨_,rfl⟩;have hsn : (D.take (k + 1)).all dropB = dropB d := (by rw [take_snoc D k hlt,List.all_append,hall,hd]; simp);have hbd : dropB d = false -> D.all dropB = false := fun h => (by rw [List.all_eq_false]; exact ⟨D[k],List.getElem_mem hlt,by rw [hd,h]; simp⟩);have hmy := HMAY.out wr d (by rw [<- hd]; exact List.getElem_mem hlt);rw [hd] at hcs;have HSN := hide hsn;have HBD := hide hbd;have HMY := hide hmy;clear hsn hbd hmy hall hd
       cases hdb : dropB d with
       | true =>
        have hmy := HMY.out;rw [hdb] at hmy;have HMY := hide hmy;have HSN := hide (HSN.out.trans hdb);clear hmy hdb
        go_wp2_with fail
        refine HMY.out.mono ?_;rintro e w5 ⟨rfl,E5⟩;go_wp2
        go_roundw
        case rel => exact ⟨k + 1,hlt,by go_num,HSN.out,Ext.trans hext E5⟩
        case measure => simp [intOf]; omega
       | false =>
        have hmy := HMY.out;rw [hdb] at hmy;have HMY := hide hmy;have HBD := hide (HBD.out hdb);clear hmy hdb
        go_wp2_with fail
        refine HMY.out.mono ?_;rintro e w5 ⟨rfl,E5⟩;go_wp2;go_ret;exact HFIN.out 11 (by rw [HV.out,HBD.out]; rfl) _ (Ext.trans hext E5)
      ·obtain rfl : k = D.length := (by omega);rw [List.take_length] at hall;have HAL := hide hall;clear hall;go_wp2;go_ret;exact HFIN.out 0 (by rw [HV.out,HAL.out]; rfl) _ hext
   ·have hne : (hc != 0) = true := (by simp [h0]);have HZ := hide (HFIN.out hc (by unfold wrchk; rw [HHE.out,HIP.out,if_neg HNE.out,if_pos h0]))
    go_enter Tryz.func85,Tryz.ntmps85
    have hbb := HB.out;subst hbb;clear HB
    go_wp2_with fail
    refine (HPTH.out _ HE0.out).mono ?_;rintro e w6 ⟨rfl,E6⟩;obtain ⟨f8,f9,f10⟩ := HCX.out _ E6
    go_wp2_with fail
    refine (HHC.out _ (Ext.trans HE0.out E6)).mono ?_;rintro e w7 ⟨rfl,E7a⟩;have E7 := Ext.trans E6 E7a;clear f8 f9 f10;obtain ⟨d8,d9,d10⟩ := HCX.out _ E7;go_wp2;go_ret
    exact HZ.out _ E7
  | false =>
   have HZ := hide (HFIN.out 10 (by unfold wrchk; rw [HIP.out,if_pos ⟨hp,rfl⟩]));clear hp
   go_enter Tryz.func85,Tryz.ntmps85
   have hbb := HB.out;subst hbb;clear HB
   go_wp2_with fail
   refine (HPTH.out _ HE0.out).mono ?_;rintro e w6 ⟨rfl,E6⟩;go_wp2;go_ret;exact HZ.out _ E6
theorem rwrchk_any (r : RuleD) (w : World) (hok : RuleOk w r) (hf : RuleFit r) :
  Calls Tryz.prog 100 #[r.val] w fun e w' => e = .returned (.int .i64 (wrchk r.pre r.S r.D)) /\ Ext w w' := by
 obtain ⟨path,ex,hv,H,pv,P,mi,ab,de,ti,pre,sv,S,dv,D,q0,q1,q2,q3,q4,q5,q6,rate⟩ := r;obtain ⟨hH,hP,hS,hD⟩ := hok;obtain ⟨zp,zpre,zH,zS,zD,zP,zl⟩ := hf;simp only [RuleD.val] at *;obtain ⟨_,a1,c1,rfl⟩ := hH.shape;obtain ⟨_,a2,c2,rfl⟩ := hP.shape;obtain ⟨_,a3,c3,rfl⟩ := hS.shape;obtain ⟨hdl,a4,c4,rfl⟩ := hD.shape;have e0 : Ext w (w.alloc (.cells #[.string path,.bool ex,.slice a1 H.length c1,.slice a2 P.length c2,.int .i64 mi,.int .i64 ab,.int .i64 de,.int .i64 ti,.string pre,.slice a3 S.length c3,.slice a4 D.length c4,.int .i64 q0,.int .i64 q1,.int .i64 q2,.int .i64 q3,.int .i64 q4,.int .i64 q5,.int .i64 q6,.int .i64 rate] 69)) := za;generalize hB : (Obj.cells #[.string path,.bool ex,.slice a1 H.length c1,.slice a2 P.length c2,.int .i64 mi,.int .i64 ab,.int .i64 de,.int .i64 ti,.string pre,.slice a3 S.length c3,.slice a4 D.length c4,.int .i64 q0,.int .i64 q1,.int .i64 q2,.int .i64 q3,.int .i64 q4,.int .i64 q5,.int .i64 q6,.int .i64 rate] 69) = B at e0
 have hcx : ∀ X,Ext (w.alloc B) X -> X.cell? ⟨w.heap.size,8,none⟩ = some (.string pre) /\ X.cell? ⟨w.heap.size,9,none⟩ = some (.slice a3 S.length c3) /\ X.cell? ⟨w.heap.size,10,none⟩ = some (.slice a4 D.length c4) := fun X hX => by
  subst hB;exact ⟨(hX.cell (p := ⟨w.heap.size,8,none⟩) (by simp)).trans (by go_simp),(hX.cell (p := ⟨w.heap.size,9,none⟩) (by simp)).trans (by go_simp),(hX.cell (p := ⟨w.heap.size,10,none⟩) (by simp)).trans (by go_simp)⟩
 have hpth : ∀ X,Ext w X -> Calls Tryz.prog 137 #[.string pre] X fun e w' => e = .returned (.bool (isPath (bl pre))) /\ X = w' := fun X hX => isPath7_any pre X zpre;have hhc : ∀ X,Ext w X -> Calls Tryz.prog 136 #[.slice a3 S.length c3] X fun e w' => e = .returned (.int .i64 (hchk S)) /\ Ext X w' := fun X hX => rhchk_any S _ X (hS.ext hX) zS;have hmay : ∀ (X : World) (d : ByteArray),d ∈ D -> Calls Tryz.prog 138 #[.agg #[.string d,.string ⟨#[]⟩]] X fun e w' => e = .returned (.bool (dropB d)) /\ Ext X w' := fun X d hd => may4_any d ⟨#[]⟩ X (zD d hd) (by show (0 : Nat) <= _; omega);have hfin : ∀ z,z = wrchk pre S D -> ∀ w9,Ext (w.alloc B) w9 -> (Ending.returned (.int .i64 z) = .returned (.int .i64 (wrchk pre S D)) /\ Ext w w9) := fun z hz w9 h9 => ⟨by rw [hz],Ext.trans e0 h9⟩;obtain ⟨ip,hip⟩ : ∃ ip,isPath (bl pre) = ip := ⟨_,rfl⟩;obtain ⟨hc,hhceq⟩ : ∃ hc,hchk S = hc := ⟨_,rfl⟩;rw [hip] at hpth;rw [hhceq] at hhc;have HCX := hide hcx;have HPTH := hide hpth;have HHC := hide hhc;have HMAY := hide hmay;have HFIN := hide hfin;have HIP := hide hip;have HHE := hide hhceq;have HD := hide hD;have HE0 := hide e0;clear hcx hpth hhc hmay hfin hip hhceq hH hP hS hD e0 zp zpre zH zS zD zP zl;have HB := hide hB;clear hB;by_cases hp : bl pre = []
 ·have hb1 : pre.toList.isEmpty = true := by rw [toL]; show (bl pre).isEmpty = true; rw [hp]; rfl
  have hb2 : (pre.toList == []) = true := by rw [toL]; show (bl pre == []) = true; rw [hp]; rfl
  have HNE := hide (show ¬ (bl pre ≠ [] /\ ip = false) from fun h => h.1 hp);clear hp
  ·skip
   by_cases h0 : hc = 0
   ·have hne : (hc != 0) = false := (by simp [h0]);by_cases h8 : 8 < D.length
    ·have h8z : (8 : Int) < D.length := (by omega);have HZ := hide (HFIN.out 2 (by unfold wrchk; rw [HHE.out,HIP.out,if_neg HNE.out,if_neg (by simp [h0]),if_pos h8]))
     go_enter Tryz.func100,Tryz.ntmps100
     have hbb := HB.out;subst hbb;clear HB
     go_wp2_with fail
     refine (HPTH.out _ HE0.out).mono ?_;rintro e w6 ⟨rfl,rfl⟩;obtain ⟨f8,f9,f10⟩ := HCX.out _ zb
     go_wp2_with fail
     refine (HHC.out _ HE0.out).mono ?_;rintro e w7 ⟨rfl,E7⟩;obtain ⟨d8,d9,d10⟩ := HCX.out _ E7;go_wp2;go_ret;exact HZ.out _ E7
    ·have h8z : ¬ (8 : Int) < D.length := (by omega);have hv : wrchk pre S D = if D.all dropB = true then 0 else 11 := (by unfold wrchk; rw [HHE.out,HIP.out,if_neg HNE.out,if_neg (by simp [h0]),if_neg h8]);have HV := hide hv;clear hv
     go_enter Tryz.func100,Tryz.ntmps100
     have hbb := HB.out;subst hbb;clear HB
     go_wp2_with fail
     refine (HPTH.out _ HE0.out).mono ?_;rintro e w6 ⟨rfl,rfl⟩;obtain ⟨f8,f9,f10⟩ := HCX.out _ zb
     go_wp2_with fail
     refine (HHC.out _ HE0.out).mono ?_;rintro e w7 ⟨rfl,E7⟩;obtain ⟨d8,d9,d10⟩ := HCX.out _ E7
     go_wp2_with fail
     go_loopw [5] (fun i wr => ∃ k : Nat,k <= D.length /\ i = .int .i64 k /\ (D.take k).all dropB = true /\ Ext (w.alloc (.cells #[.string path,.bool ex,.slice a1 H.length c1,.slice a2 P.length c2,.int .i64 mi,.int .i64 ab,.int .i64 de,.int .i64 ti,.string pre,.slice a3 S.length c3,.slice a4 D.length c4,.int .i64 q0,.int .i64 q1,.int .i64 q2,.int .i64 q3,.int .i64 q4,.int .i64 q5,.int .i64 q6,.int .i64 rate] 69)) wr) (fun i _ => D.length - (intOf i).toNat)
     case atStart => exact ⟨0,by omega,rfl,by simp,E7⟩
     case round =>
      obtain ⟨k,hk,rfl,hall,hext⟩ := hrel;obtain ⟨g8,g9,g10⟩ := HCX.out _ hext;by_cases hlt : k < D.length
      ·obtain ⟨b,off,rfl,hbb,hcs⟩ := strs_at (HD.out.ext (Ext.trans HE0.out hext)) k hlt;obtain ⟨d,hd⟩ : ∃ d,D[k] = d := ⟨_,rfl⟩;have hsn : (D.take (k + 1)).all dropB = dropB d := (by rw [take_snoc D k hlt,List.all_append,hall,hd]; simp);have hbd : dropB d = false -> D.all dropB = false := fun h => (by rw [List.all_eq_false]; exact ⟨D[k],List.getElem_mem hlt,by rw [hd,h]; simp⟩);have hmy := HMAY.out wr d (by rw [<- hd]; exact List.getElem_mem hlt);rw [hd] at hcs;have HSN := hide hsn;have HBD := hide hbd;have HMY := hide hmy;clear hsn hbd hmy hall hd
       cases hdb : dropB d with
       | true =>
        have hmy := HMY.out;rw [hdb] at hmy;have HMY := hide hmy;have HSN := hide (HSN.out.trans hdb);clear hmy hdb
        go_wp2_with fail
        refine HMY.out.mono ?_;rintro e w5 ⟨rfl,E5⟩;go_wp2
        go_roundw
        case rel => exact ⟨k + 1,hlt,by go_num,HSN.out,Ext.trans hext E5⟩
        case measure => simp [intOf]; omega
       | false =>
        have hmy := HMY.out;rw [hdb] at hmy;have HMY := hide hmy;have HBD := hide (HBD.out hdb);clear hmy hdb
        go_wp2_with fail
        refine HMY.out.mono ?_;rintro e w5 ⟨rfl,E5⟩;go_wp2;go_ret;exact HFIN.out 11 (by rw [HV.out,HBD.out]; rfl) _ (Ext.trans hext E5)
      ·obtain rfl : k = D.length := (by omega);rw [List.take_length] at hall;have HAL := hide hall;clear hall;go_wp2;go_ret;exact HFIN.out 0 (by rw [HV.out,HAL.out]; rfl) _ hext
   ·have hne : (hc != 0) = true := (by simp [h0]);have HZ := hide (HFIN.out hc (by unfold wrchk; rw [HHE.out,HIP.out,if_neg HNE.out,if_pos h0]))
    go_enter Tryz.func100,Tryz.ntmps100
    have hbb := HB.out;subst hbb;clear HB
    go_wp2_with fail
    refine (HPTH.out _ HE0.out).mono ?_;rintro e w6 ⟨rfl,rfl⟩;obtain ⟨f8,f9,f10⟩ := HCX.out _ zb
    go_wp2_with fail
    refine (HHC.out _ HE0.out).mono ?_;rintro e w7 ⟨rfl,E7⟩;obtain ⟨d8,d9,d10⟩ := HCX.out _ E7;go_wp2;go_ret;exact HZ.out _ E7
 ·have hb1 : pre.toList.isEmpty = false := by rw [toL]; show (bl pre).isEmpty = false; simpa using hp
  have hb2 : (pre.toList == []) = false := by rw [toL]; show (bl pre == []) = false; simpa using hp
  cases ip with
  | true =>
   have HNE := hide (show ¬ (bl pre ≠ [] /\ true = false) from fun h => by cases h.2);clear hp;by_cases h0 : hc = 0
   ·have hne : (hc != 0) = false := (by simp [h0]);by_cases h8 : 8 < D.length
    ·have h8z : (8 : Int) < D.length := (by omega);have HZ := hide (HFIN.out 2 (by unfold wrchk; rw [HHE.out,HIP.out,if_neg HNE.out,if_neg (by simp [h0]),if_pos h8]))
     go_enter Tryz.func100,Tryz.ntmps100
     have hbb := HB.out;subst hbb;clear HB
     go_wp2_with fail
     refine (HPTH.out _ HE0.out).mono ?_;rintro e w6 ⟨rfl,rfl⟩;obtain ⟨f8,f9,f10⟩ := HCX.out _ zb
     go_wp2_with fail
     refine (HHC.out _ HE0.out).mono ?_;rintro e w7 ⟨rfl,E7⟩;clear f8 f9 f10;obtain ⟨d8,d9,d10⟩ := HCX.out _ E7;go_wp2;go_ret;exact HZ.out _ E7
    ·have h8z : ¬ (8 : Int) < D.length := (by omega);have hv : wrchk pre S D = if D.all dropB = true then 0 else 11 := (by unfold wrchk; rw [HHE.out,HIP.out,if_neg HNE.out,if_neg (by simp [h0]),if_neg h8]);have HV := hide hv;clear hv
     go_enter Tryz.func100,Tryz.ntmps100
     have hbb := HB.out;subst hbb;clear HB
     go_wp2_with fail
     refine (HPTH.out _ HE0.out).mono ?_;rintro e w6 ⟨rfl,rfl⟩;obtain ⟨f8,f9,f10⟩ := HCX.out _ zb
     go_wp2_with fail
     refine (HHC.out _ HE0.out).mono ?_;rintro e w7 ⟨rfl,E7⟩;clear f8 f9 f10;obtain ⟨d8,d9,d10⟩ := HCX.out _ E7
     go_wp2_with fail
     go_loopw [5] (fun i wr => ∃ k : Nat,k <= D.length /\ i = .int .i64 k /\ (D.take k).all dropB = true /\ Ext (w.alloc (.cells #[.string path,.bool ex,.slice a1 H.length c1,.slice a2 P.length c2,.int .i64 mi,.int .i64 ab,.int .i64 de,.int .i64 ti,.string pre,.slice a3 S.length c3,.slice a4 D.length c4,.int .i64 q0,.int .i64 q1,.int .i64 q2,.int .i64 q3,.int .i64 q4,.int .i64 q5,.int .i64 q6,.int .i64 rate] 69)) wr) (fun i _ => D.length - (intOf i).toNat)
     case atStart => exact ⟨0,by omega,rfl,by simp,E7⟩
     case round =>
      obtain ⟨k,hk,rfl,hall,hext⟩ := hrel;obtain ⟨g8,g9,g10⟩ := HCX.out _ hext;by_cases hlt : k < D.length
      ·obtain ⟨b,off,rfl,hbb,hcs⟩ := strs_at (HD.out.ext (Ext.trans HE0.out hext)) k hlt;obtain ⟨d,hd⟩ : ∃ d,D[k] = d := ⟨_,rfl⟩;have hsn : (D.take (k + 1)).all dropB = dropB d := (by rw [take_snoc D k hlt,List.all_append,hall,hd]; simp);have hbd : dropB d = false -> D.all dropB = false := fun h => (by rw [List.all_eq_false]; exact ⟨D[k],List.getElem_mem hlt,by rw [hd,h]; simp⟩);have hmy := HMAY.out wr d (by rw [<- hd]; exact List.getElem_mem hlt);rw [hd] at hcs;have HSN := hide hsn;have HBD := hide hbd;have HMY := hide hmy;clear hsn hbd hmy hall hd
       cases hdb : dropB d with
       | true =>
        have hmy := HMY.out;rw [hdb] at hmy;have HMY := hide hmy;have HSN := hide (HSN.out.trans hdb);clear hmy hdb
        go_wp2_with fail
        refine HMY.out.mono ?_;rintro e w5 ⟨rfl,E5⟩;go_wp2
        go_roundw
        case rel => exact ⟨k + 1,hlt,by go_num,HSN.out,Ext.trans hext E5⟩
        case measure => simp [intOf]; omega
       | false =>
        have hmy := HMY.out;rw [hdb] at hmy;have HMY := hide hmy;have HBD := hide (HBD.out hdb);clear hmy hdb
        go_wp2_with fail
        refine HMY.out.mono ?_;rintro e w5 ⟨rfl,E5⟩;go_wp2;go_ret;exact HFIN.out 11 (by rw [HV.out,HBD.out]; rfl) _ (Ext.trans hext E5)
      ·obtain rfl : k = D.length := (by omega);rw [List.take_length] at hall;have HAL := hide hall;clear hall;go_wp2;go_ret;exact HFIN.out 0 (by rw [HV.out,HAL.out]; rfl) _ hext
   ·have hne : (hc != 0) = true := (by simp [h0]);have HZ := hide (HFIN.out hc (by unfold wrchk; rw [HHE.out,HIP.out,if_neg HNE.out,if_pos h0]))
    go_enter Tryz.func100,Tryz.ntmps100
    have hbb := HB.out;subst hbb;clear HB
    go_wp2_with fail
    refine (HPTH.out _ HE0.out).mono ?_;rintro e w6 ⟨rfl,rfl⟩;obtain ⟨f8,f9,f10⟩ := HCX.out _ zb
    go_wp2_with fail
    refine (HHC.out _ HE0.out).mono ?_;rintro e w7 ⟨rfl,E7⟩;clear f8 f9 f10;obtain ⟨d8,d9,d10⟩ := HCX.out _ E7;go_wp2;go_ret
    exact HZ.out _ E7
  | false =>
   have HZ := hide (HFIN.out 10 (by unfold wrchk; rw [HIP.out,if_pos ⟨hp,rfl⟩]));clear hp
   go_enter Tryz.func100,Tryz.ntmps100
   have hbb := HB.out;subst hbb;clear HB
   go_wp2_with fail
   refine (HPTH.out _ HE0.out).mono ?_;rintro e w6 ⟨rfl,rfl⟩;go_wp2;go_ret;exact HZ.out _ zb
end Go.Proofs.YtoaiakhnnfbkdaaGreatDoor
