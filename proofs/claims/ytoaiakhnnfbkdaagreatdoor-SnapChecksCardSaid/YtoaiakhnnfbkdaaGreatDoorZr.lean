import Derived.Test.YtoaiakhnnfbkdaaGreatDoorZs
import Derived.Test.YtoaiakhnnfbkdaaGreatDoorZc
import Derived.Deep.MidRow
import Derived.Deep.Cut
import Derived.Test.YtoaiakhnnfbkdaaGreatDoorZa
import Derived.Sort.LotA
import Derived.Shelf.SlSortCmp.Insertion
import Derived.Test.YtoaiakhnnfbkdaaGreatDoorZb

/- ref08.within,policy,Check. -/
set_option maxRecDepth 100000
set_option maxHeartbeats 32000000
namespace Go.Proofs.YtoaiakhnnfbkdaaGreatDoor
open Go.ChangeShapes Go.WideShapes Go.ChangeAt Go.RowKit Go.Lib Go.Shelf
theorem rwithin_any (n lo hi : Int) (w : World) :
  Calls Tryz.prog 99 #[.int .i64 n,.int .i64 lo,.int .i64 hi] w fun e w' => e = .returned (.bool (!outB lo hi n)) /\ w = w' := by
 by_cases h1 : n < lo
 ·have ho := hide (show false = !outB lo hi n by simp [outB,h1])
  go_enter Tryz.func99,Tryz.ntmps99
  go_wp2;go_ret;exact ⟨ret_bool ho.out,rfl⟩
 ·by_cases h2 : hi < n
  ·have hle : ¬ n <= hi := (by omega);have ho := hide (show decide (n <= hi) = !outB lo hi n by simp [outB,h1,h2,hle]);clear hle
   go_enter Tryz.func99,Tryz.ntmps99
   go_wp2;go_ret;exact ⟨ret_bool ho.out,rfl⟩
  ·have ho := hide (show true = !outB lo hi n by simp [outB,h1,h2])
   go_enter Tryz.func99,Tryz.ntmps99
   go_wp2;go_ret;exact ⟨ret_bool ho.out,rfl⟩
def polB (q0 q1 q2 q3 q4 q5 q6 : Int) : Bool := !outB 1 10000 q0 && !outB 1 8 q1 && !outB 0 10000 q2 && !outB 0 10000 q3 && !outB 0 100 q4 && !outB 1 100 q5 && !outB 0 100 q6
theorem rpolicy_any (q0 q1 q2 q3 q4 q5 q6 : Int) (w : World) :
  Calls Tryz.prog 101 #[.agg #[.int .i64 q0,.int .i64 q1,.int .i64 q2,.int .i64 q3,.int .i64 q4,.int .i64 q5,.int .i64 q6]] w fun e w' => e = .returned (.bool (polB q0 q1 q2 q3 q4 q5 q6)) /\ Ext w w' := by
 have hwi : ∀ (n lo hi : Int) (b : Bool) (X : World),outB lo hi n = b -> Calls Tryz.prog 99 #[.int .i64 n,.int .i64 lo,.int .i64 hi] X fun e w' => e = .returned (.bool (!b)) /\ X = w' := fun n lo hi b X h => by rw [<- h]; exact rwithin_any n lo hi X
 have HW := hide hwi;have HE0 := hide ((Below.refl _ w : Ext w w).alloc (Nat.le_refl _) (.cells #[.int .i64 q0,.int .i64 q1,.int .i64 q2,.int .i64 q3,.int .i64 q4,.int .i64 q5,.int .i64 q6] 67));clear hwi
 cases h0 : outB 1 10000 q0 with
 | true =>
  have HR := hide (show false = polB q0 q1 q2 q3 q4 q5 q6 by unfold polB; rw [h0]; rfl);have H0 := hide h0;clear h0
  go_enter Tryz.func101,Tryz.ntmps101
  go_wp2_with fail
  refine (HW.out q0 1 10000 _ _ H0.out).mono ?_;rintro e w7 ⟨rfl,rfl⟩;go_wp2;go_ret
  exact ⟨ret_bool HR.out,HE0.out⟩
 | false =>
  cases h1 : outB 1 8 q1 with
  | true =>
   have HR := hide (show false = polB q0 q1 q2 q3 q4 q5 q6 by unfold polB; rw [h0,h1]; rfl);have H0 := hide h0;have H1 := hide h1;clear h0 h1
   go_enter Tryz.func101,Tryz.ntmps101
   go_wp2_with fail
   refine (HW.out q0 1 10000 _ _ H0.out).mono ?_;rintro e w7 ⟨rfl,rfl⟩
   go_wp2_with fail
   refine (HW.out q1 1 8 _ _ H1.out).mono ?_;rintro e w7 ⟨rfl,rfl⟩;go_wp2;go_ret
   exact ⟨ret_bool HR.out,HE0.out⟩
  | false =>
   cases h2 : outB 0 10000 q2 with
   | true =>
    have HR := hide (show false = polB q0 q1 q2 q3 q4 q5 q6 by unfold polB; rw [h0,h1,h2]; rfl);have H0 := hide h0;have H1 := hide h1;have H2 := hide h2;clear h0 h1 h2
    go_enter Tryz.func101,Tryz.ntmps101
    go_wp2_with fail
    refine (HW.out q0 1 10000 _ _ H0.out).mono ?_;rintro e w7 ⟨rfl,rfl⟩
    go_wp2_with fail
    refine (HW.out q1 1 8 _ _ H1.out).mono ?_;rintro e w7 ⟨rfl,rfl⟩
    go_wp2_with fail
    refine (HW.out q2 0 10000 _ _ H2.out).mono ?_;rintro e w7 ⟨rfl,rfl⟩;go_wp2;go_ret
    exact ⟨ret_bool HR.out,HE0.out⟩
   | false =>
    cases h3 : outB 0 10000 q3 with
    | true =>
     have HR := hide (show false = polB q0 q1 q2 q3 q4 q5 q6 by unfold polB; rw [h0,h1,h2,h3]; rfl);have H0 := hide h0;have H1 := hide h1;have H2 := hide h2;have H3 := hide h3;clear h0 h1 h2 h3
     go_enter Tryz.func101,Tryz.ntmps101
     go_wp2_with fail
     refine (HW.out q0 1 10000 _ _ H0.out).mono ?_;rintro e w7 ⟨rfl,rfl⟩
     go_wp2_with fail
     refine (HW.out q1 1 8 _ _ H1.out).mono ?_;rintro e w7 ⟨rfl,rfl⟩
     go_wp2_with fail
     refine (HW.out q2 0 10000 _ _ H2.out).mono ?_;rintro e w7 ⟨rfl,rfl⟩
     go_wp2_with fail
     refine (HW.out q3 0 10000 _ _ H3.out).mono ?_;rintro e w7 ⟨rfl,rfl⟩;go_wp2;go_ret
     exact ⟨ret_bool HR.out,HE0.out⟩
    | false =>
     cases h4 : outB 0 100 q4 with
     | true =>
      have HR := hide (show false = polB q0 q1 q2 q3 q4 q5 q6 by unfold polB; rw [h0,h1,h2,h3,h4]; rfl);have H0 := hide h0;have H1 := hide h1;have H2 := hide h2;have H3 := hide h3;have H4 := hide h4;clear h0 h1 h2 h3 h4
      go_enter Tryz.func101,Tryz.ntmps101
      go_wp2_with fail
      refine (HW.out q0 1 10000 _ _ H0.out).mono ?_;rintro e w7 ⟨rfl,rfl⟩
      go_wp2_with fail
      refine (HW.out q1 1 8 _ _ H1.out).mono ?_;rintro e w7 ⟨rfl,rfl⟩
      go_wp2_with fail
      refine (HW.out q2 0 10000 _ _ H2.out).mono ?_;rintro e w7 ⟨rfl,rfl⟩
      go_wp2_with fail
      refine (HW.out q3 0 10000 _ _ H3.out).mono ?_;rintro e w7 ⟨rfl,rfl⟩
      go_wp2_with fail
      refine (HW.out q4 0 100 _ _ H4.out).mono ?_;rintro e w7 ⟨rfl,rfl⟩;go_wp2;go_ret
      exact ⟨ret_bool HR.out,HE0.out⟩
     | false =>
      cases h5 : outB 1 100 q5 with
      | true =>
       have HR := hide (show false = polB q0 q1 q2 q3 q4 q5 q6 by unfold polB; rw [h0,h1,h2,h3,h4,h5]; rfl);have H0 := hide h0;have H1 := hide h1;have H2 := hide h2;have H3 := hide h3;have H4 := hide h4;have H5 := hide h5;clear h0 h1 h2 h3 h4 h5
       go_enter Tryz.func101,Tryz.ntmps101
       go_wp2_with fail
       refine (HW.out q0 1 10000 _ _ H0.out).mono ?_;rintro e w7 ⟨rfl,rfl⟩
       go_wp2_with fail
       refine (HW.out q1 1 8 _ _ H1.out).mono ?_;rintro e w7 ⟨rfl,rfl⟩
       go_wp2_with fail
       refine (HW.out q2 0 10000 _ _ H2.out).mono ?_;rintro e w7 ⟨rfl,rfl⟩
       go_wp2_with fail
       refine (HW.out q3 0 10000 _ _ H3.out).mono ?_;rintro e w7 ⟨rfl,rfl⟩
       go_wp2_with fail
       refine (HW.out q4 0 100 _ _ H4.out).mono ?_;rintro e w7 ⟨rfl,rfl⟩
       go_wp2_with fail
       refine (HW.out q5 1 100 _ _ H5.out).mono ?_;rintro e w7 ⟨rfl,rfl⟩;go_wp2;go_ret
       exact ⟨ret_bool HR.out,HE0.out⟩
      | false =>
       cases h6 : outB 0 100 q6 with
       | true =>
        have HR := hide (show false = polB q0 q1 q2 q3 q4 q5 q6 by unfold polB; rw [h0,h1,h2,h3,h4,h5,h6]; rfl);have H0 := hide h0;have H1 := hide h1;have H2 := hide h2;have H3 := hide h3;have H4 := hide h4;have H5 := hide h5;have H6 := hide h6;clear h0 h1 h2 h3 h4 h5 h6
        go_enter Tryz.func101,Tryz.ntmps101
        go_wp2_with fail
        refine (HW.out q0 1 10000 _ _ H0.out).mono ?_;rintro e w7 ⟨rfl,rfl⟩
        go_wp2_with fail
        refine (HW.out q1 1 8 _ _ H1.out).mono ?_;rintro e w7 ⟨rfl,rfl⟩
        go_wp2_with fail
        refine (HW.out q2 0 10000 _ _ H2.out).mono ?_;rintro e w7 ⟨rfl,rfl⟩
        go_wp2_with fail
        refine (HW.out q3 0 10000 _ _ H3.out).mono ?_;rintro e w7 ⟨rfl,rfl⟩
        go_wp2_with fail
        refine (HW.out q4 0 100 _ _ H4.out).mono ?_;rintro e w7 ⟨rfl,rfl⟩
        go_wp2_with fail
        refine (HW.out q5 1 100 _ _ H5.out).mono ?_;rintro e w7 ⟨rfl,rfl⟩
        go_wp2_with fail
        refine (HW.out q6 0 100 _ _ H6.out).mono ?_;rintro e w7 ⟨rfl,rfl⟩;go_wp2;go_ret
        exact ⟨ret_bool HR.out,HE0.out⟩
       | false =>
        have HR := hide (show true = polB q0 q1 q2 q3 q4 q5 q6 by unfold polB; rw [h0,h1,h2,h3,h4,h5,h6]; rfl);have H0 := hide h0;have H1 := hide h1;have H2 := hide h2;have H3 := hide h3;have H4 := hide h4;have H5 := hide h5;have H6 := hide h6;clear h0 h1 h2 h3 h4 h5 h6
        go_enter Tryz.func101,Tryz.ntmps101
        go_wp2_with fail
        refine (HW.out q0 1 10000 _ _ H0.out).mono ?_;rintro e w7 ⟨rfl,rfl⟩
        go_wp2_with fail
        refine (HW.out q1 1 8 _ _ H1.out).mono ?_;rintro e w7 ⟨rfl,rfl⟩
        go_wp2_with fail
        refine (HW.out q2 0 10000 _ _ H2.out).mono ?_;rintro e w7 ⟨rfl,rfl⟩
        go_wp2_with fail
        refine (HW.out q3 0 10000 _ _ H3.out).mono ?_;rintro e w7 ⟨rfl,rfl⟩
        go_wp2_with fail
        refine (HW.out q4 0 100 _ _ H4.out).mono ?_;rintro e w7 ⟨rfl,rfl⟩
        go_wp2_with fail
        refine (HW.out q5 1 100 _ _ H5.out).mono ?_;rintro e w7 ⟨rfl,rfl⟩
        go_wp2_with fail
        refine (HW.out q6 0 100 _ _ H6.out).mono ?_;rintro e w7 ⟨rfl,rfl⟩;go_wp2;go_ret;exact ⟨ret_bool HR.out,HE0.out⟩
def CellR (w : World) (b : Nat) (r : RuleD) : Prop := b < w.heap.size /\ ∀ j u,(encR r)[j]? = some u -> w.cell? ⟨b,j,none⟩ = some u
theorem CellR.ext {w w' : World} {b : Nat} {r : RuleD} (h : CellR w b r) (e : Ext w w') : CellR w' b r :=
 ⟨Nat.lt_of_lt_of_le h.1 e.size,fun j u hu => (e.cell (p := ⟨b,j,none⟩) h.1).trans (h.2 j u hu)⟩
theorem Tryz.ruleDesc0 : (Tryz.prog.underlying 69).map TypeDesc.isRow = some true := by kernel_rfl
theorem Tryz.ruleDesc : ∃ d,Tryz.prog.underlying 69 = some d /\ d.isRow = true := by
 have h := Tryz.ruleDesc0
 revert h
 cases Tryz.prog.underlying 69 with
 | none => intro h; cases h
 | some d => intro h; exact ⟨d,rfl,by simpa using h⟩
theorem Tryz.ruleSize : (Tryz.prog.info? 69).map (·.size) = some 19 := by kernel_rfl
theorem ck1_any (r : RuleD) (b : Nat) (w : World) (hc : CellR w b r) (hok : RuleOk w r) (hf : RuleFit r) (hm : MaxV w) :
  Calls Tryz.prog 79 #[.pointer (some ⟨b,0,none⟩)] w fun e w' => e = .returned (.int .i64 (mchk (bl r.path) r.H)) /\ Ext w w' := by
 obtain ⟨path,ex,hv,H,pv,P,mi,ab,de,ti,pre,sv,S,dv,D,q0,q1,q2,q3,q4,q5,q6,rate⟩ := r;obtain ⟨hH,hP,hS,hD⟩ := hok;obtain ⟨zp,zpre,zH,zS,zD,zP,zl⟩ := hf;simp only at *;obtain ⟨_,a1,c1,rfl⟩ := hH.shape;obtain ⟨_,a2,c2,rfl⟩ := hP.shape;obtain ⟨_,a3,c3,rfl⟩ := hS.shape;obtain ⟨_,a4,c4,rfl⟩ := hD.shape;have d0 := hc.2 0 _ rfl;have d1 := hc.2 1 _ rfl;have d2 := hc.2 2 _ rfl;have HM := hide (mchk_any path ex H _ w zp hm hH zH);clear hc hH hP hS hD zp zpre zH zS zD zP zl hm
 go_enter Tryz.func79,Tryz.ntmps79
 go_wp2_with fail
 refine HM.out.mono ?_;rintro e w1 ⟨rfl,E1⟩;go_wp2;go_ret;exact ⟨rfl,E1⟩
theorem ck2_any (r : RuleD) (b : Nat) (w : World) (hc : CellR w b r) (hok : RuleOk w r) (hf : RuleFit r) :
  Calls Tryz.prog 81 #[.pointer (some ⟨b,0,none⟩)] w fun e w' => e = .returned (.int .i64 (Sp.check r.P)) /\ Ext w w' := by
 obtain ⟨path,ex,hv,H,pv,P,mi,ab,de,ti,pre,sv,S,dv,D,q0,q1,q2,q3,q4,q5,q6,rate⟩ := r;obtain ⟨hH,hP,hS,hD⟩ := hok;obtain ⟨zp,zpre,zH,zS,zD,zP,zl⟩ := hf;simp only at *;obtain ⟨_,a1,c1,rfl⟩ := hH.shape;obtain ⟨_,a2,c2,rfl⟩ := hP.shape;obtain ⟨_,a3,c3,rfl⟩ := hS.shape;obtain ⟨_,a4,c4,rfl⟩ := hD.shape;have d3 := hc.2 3 _ rfl;have HM := hide (Sp.check_any P _ w hP zP zl);clear hc hH hP hS hD zp zpre zH zS zD zP zl
 go_enter Tryz.func81,Tryz.ntmps81
 go_wp2_with fail
 refine HM.out.mono ?_;rintro e w1 ⟨rfl,E1⟩;go_wp2;go_ret;exact ⟨rfl,E1⟩
theorem ck3_any (r : RuleD) (b : Nat) (w : World) (hc : CellR w b r) (hok : RuleOk w r) (hf : RuleFit r) (hm : MaxV w) :
  Calls Tryz.prog 84 #[.pointer (some ⟨b,0,none⟩)] w fun e w' => e = .returned (.int .i64 (wrchk r.pre r.S r.D)) /\ Ext w w' := by
 have hw := wrchk_any r w hok hf hm;obtain ⟨path,ex,hv,H,pv,P,mi,ab,de,ti,pre,sv,S,dv,D,q0,q1,q2,q3,q4,q5,q6,rate⟩ := r;obtain ⟨hH,hP,hS,hD⟩ := hok;obtain ⟨zp,zpre,zH,zS,zD,zP,zl⟩ := hf;simp only [RuleD.val] at *;obtain ⟨_,a1,c1,rfl⟩ := hH.shape;obtain ⟨_,a2,c2,rfl⟩ := hP.shape;obtain ⟨_,a3,c3,rfl⟩ := hS.shape;obtain ⟨_,a4,c4,rfl⟩ := hD.shape;have hrg : w.rangeAt b 0 [.string path,.bool ex,.slice a1 H.length c1,.slice a2 P.length c2,.int .i64 mi,.int .i64 ab,.int .i64 de,.int .i64 ti,.string pre,.slice a3 S.length c3,.slice a4 D.length c4,.int .i64 q0,.int .i64 q1,.int .i64 q2,.int .i64 q3,.int .i64 q4,.int .i64 q5,.int .i64 q6,.int .i64 rate] := fun j v hv => by rw [Nat.zero_add]; exact hc.2 j v hv
 have HRG := hide hrg;obtain ⟨dd,hd1,hd2⟩ := Tryz.ruleDesc;have HM := hide hw;clear hc hH hP hS hD zp zpre zH zS zD zP zl hm hw hrg
 go_enter Tryz.func84,Tryz.ntmps84
 go_upto_region 1 with (fail)
 refine wp_region_lit ?_;refine wpList_load_mid rfl 69 (.tmp 0) rfl b 0 rfl [.string path,.bool ex,.slice a1 H.length c1,.slice a2 P.length c2,.int .i64 mi,.int .i64 ab,.int .i64 de,.int .i64 ti,.string pre,.slice a3 S.length c3,.slice a4 D.length c4,.int .i64 q0,.int .i64 q1,.int .i64 q2,.int .i64 q3,.int .i64 q4,.int .i64 q5,.int .i64 q6,.int .i64 rate] dd HRG.out hd1 hd2 Tryz.ruleSize ?_;simp only [Act.put,List.setIfInBounds_toArray,List.set_cons_zero,List.set_cons_succ]
 go_wp2_with fail
 refine HM.out.mono ?_;rintro e w1 ⟨rfl,E1⟩;go_wp2;go_ret;exact ⟨rfl,E1⟩
def injB (ab de ti : Int) : Bool := outB 0 10000 ab || outB 0 10000 de || outB 0 10000 ti
def rchk (r : RuleD) (rates : Int) : Int :=
 if mchk (bl r.path) r.H ≠ 0 then mchk (bl r.path) r.H else if Sp.check r.P ≠ 0 then Sp.check r.P else if outB 0 10 r.mi = true then 13 else
 if injB r.ab r.de r.ti = true then 16 else if wrchk r.pre r.S r.D ≠ 0 then wrchk r.pre r.S r.D else if polB r.q0 r.q1 r.q2 r.q3 r.q4 r.q5 r.q6 = false then 16 else
 if outB 0 rates r.rate = true then 15 else 0
theorem rrchk_any (r : RuleD) (rates : Int) (w : World) (hok : RuleOk w r) (hf : RuleFit r) :
  Calls Tryz.prog 66 #[r.val,.int .i64 rates] w fun e w' => e = .returned (.int .i64 (rchk r rates)) /\ Ext w w' := by
 have hwr : ∀ X,Ext w X -> Calls Tryz.prog 100 #[r.val] X fun e w' => e = .returned (.int .i64 (wrchk r.pre r.S r.D)) /\ Ext X w' := fun X hX => rwrchk_any r X (hok.ext hX) hf;obtain ⟨path,ex,hv,H,pv,P,mi,ab,de,ti,pre,sv,S,dv,D,q0,q1,q2,q3,q4,q5,q6,rate⟩ := r;obtain ⟨hH,hP,hS,hD⟩ := hok;obtain ⟨zp,zpre,zH,zS,zD,zP,zl⟩ := hf;simp only [RuleD.val] at *;obtain ⟨_,a1,c1,rfl⟩ := hH.shape;obtain ⟨_,a2,c2,rfl⟩ := hP.shape;obtain ⟨_,a3,c3,rfl⟩ := hS.shape;obtain ⟨_,a4,c4,rfl⟩ := hD.shape;have e0 : Ext w (w.alloc (.cells #[.string path,.bool ex,.slice a1 H.length c1,.slice a2 P.length c2,.int .i64 mi,.int .i64 ab,.int .i64 de,.int .i64 ti,.string pre,.slice a3 S.length c3,.slice a4 D.length c4,.int .i64 q0,.int .i64 q1,.int .i64 q2,.int .i64 q3,.int .i64 q4,.int .i64 q5,.int .i64 q6,.int .i64 rate] 69)) := za;have hmc : ∀ X,Ext w X -> Calls Tryz.prog 97 #[.agg #[.string path,.bool ex,.slice a1 H.length c1]] X fun e w' => e = .returned (.int .i64 (mchk (bl path) H)) /\ Ext X w' := fun X hX => rmchk_any path ex H _ X zp (hH.ext hX) zH;have hpc : ∀ X,Ext w X -> Calls Tryz.prog 98 #[.slice a2 P.length c2] X fun e w' => e = .returned (.int .i64 (Sp.check P)) /\ Ext X w' := fun X hX => Sp.rcheck_any P _ X (hP.ext hX) zP zl;have hcx : ∀ X,Ext (w.alloc (.cells #[.string path,.bool ex,.slice a1 H.length c1,.slice a2 P.length c2,.int .i64 mi,.int .i64 ab,.int .i64 de,.int .i64 ti,.string pre,.slice a3 S.length c3,.slice a4 D.length c4,.int .i64 q0,.int .i64 q1,.int .i64 q2,.int .i64 q3,.int .i64 q4,.int .i64 q5,.int .i64 q6,.int .i64 rate] 69)) X -> X.cell? ⟨w.heap.size,0,none⟩ = some (.string path) /\ X.cell? ⟨w.heap.size,1,none⟩ = some (.bool ex) /\ X.cell? ⟨w.heap.size,2,none⟩ = some (.slice a1 H.length c1) /\ X.cell? ⟨w.heap.size,3,none⟩ = some (.slice a2 P.length c2) /\ X.cell? ⟨w.heap.size,4,none⟩ = some (.int .i64 mi) /\ X.cell? ⟨w.heap.size,5,none⟩ = some (.int .i64 ab) /\ X.cell? ⟨w.heap.size,6,none⟩ = some (.int .i64 de) /\ X.cell? ⟨w.heap.size,7,none⟩ = some (.int .i64 ti) /\ X.cell? ⟨w.heap.size,8,none⟩ = some (.string pre) /\ X.cell? ⟨w.heap.size,9,none⟩ = some (.slice a3 S.length c3) /\ X.cell? ⟨w.heap.size,10,none⟩ = some (.slice a4 D.length c4) /\ X.cell? ⟨w.heap.size,11,none⟩ = some (.int .i64 q0) /\ X.cell? ⟨w.heap.size,12,none⟩ = some (.int .i64 q1) /\ X.cell? ⟨w.heap.size,13,none⟩ = some (.int .i64 q2) /\ X.cell? ⟨w.heap.size,14,none⟩ = some (.int .i64 q3) /\ X.cell? ⟨w.heap.size,15,none⟩ = some (.int .i64 q4) /\ X.cell? ⟨w.heap.size,16,none⟩ = some (.int .i64 q5) /\ X.cell? ⟨w.heap.size,17,none⟩ = some (.int .i64 q6) /\ X.cell? ⟨w.heap.size,18,none⟩ = some (.int .i64 rate) := fun X hX => ⟨(hX.cell (p := ⟨w.heap.size,0,none⟩) (by simp)).trans (by go_simp),(hX.cell (p := ⟨w.heap.size,1,none⟩) (by simp)).trans (by go_simp),(hX.cell (p := ⟨w.heap.size,2,none⟩) (by simp)).trans (by go_simp),(hX.cell (p := ⟨w.heap.size,3,none⟩) (by simp)).trans (by go_simp),(hX.cell (p := ⟨w.heap.size,4,none⟩) (by simp)).trans (by go_simp),(hX.cell (p := ⟨w.heap.size,5,none⟩) (by simp)).trans (by go_simp),(hX.cell (p := ⟨w.heap.size,6,none⟩) (by simp)).trans (by go_simp),(hX.cell (p := ⟨w.heap.size,7,none⟩) (by simp)).trans (by go_simp),(hX.cell (p := ⟨w.heap.size,8,none⟩) (by simp)).trans (by go_simp),(hX.cell (p := ⟨w.heap.size,9,none⟩) (by simp)).trans (by go_simp),(hX.cell (p := ⟨w.heap.size,10,none⟩) (by simp)).trans (by go_simp),(hX.cell (p := ⟨w.heap.size,11,none⟩) (by simp)).trans (by go_simp),(hX.cell (p := ⟨w.heap.size,12,none⟩) (by simp)).trans (by go_simp),(hX.cell (p := ⟨w.heap.size,13,none⟩) (by simp)).trans (by go_simp),(hX.cell (p := ⟨w.heap.size,14,none⟩) (by simp)).trans (by go_simp),(hX.cell (p := ⟨w.heap.size,15,none⟩) (by simp)).trans (by go_simp),(hX.cell (p := ⟨w.heap.size,16,none⟩) (by simp)).trans (by go_simp),(hX.cell (p := ⟨w.heap.size,17,none⟩) (by simp)).trans (by go_simp),(hX.cell (p := ⟨w.heap.size,18,none⟩) (by simp)).trans (by go_simp)⟩
 have hrg : ∀ X,Ext (w.alloc (.cells #[.string path,.bool ex,.slice a1 H.length c1,.slice a2 P.length c2,.int .i64 mi,.int .i64 ab,.int .i64 de,.int .i64 ti,.string pre,.slice a3 S.length c3,.slice a4 D.length c4,.int .i64 q0,.int .i64 q1,.int .i64 q2,.int .i64 q3,.int .i64 q4,.int .i64 q5,.int .i64 q6,.int .i64 rate] 69)) X -> X.rangeAt w.heap.size 0 [.string path,.bool ex,.slice a1 H.length c1,.slice a2 P.length c2,.int .i64 mi,.int .i64 ab,.int .i64 de,.int .i64 ti,.string pre,.slice a3 S.length c3,.slice a4 D.length c4,.int .i64 q0,.int .i64 q1,.int .i64 q2,.int .i64 q3,.int .i64 q4,.int .i64 q5,.int .i64 q6,.int .i64 rate] := fun X hX j v hv => by
  rw [Nat.zero_add,hX.cell (p := ⟨w.heap.size,j,none⟩) (by simp)];have := cells_new w [.string path,.bool ex,.slice a1 H.length c1,.slice a2 P.length c2,.int .i64 mi,.int .i64 ab,.int .i64 de,.int .i64 ti,.string pre,.slice a3 S.length c3,.slice a4 D.length c4,.int .i64 q0,.int .i64 q1,.int .i64 q2,.int .i64 q3,.int .i64 q4,.int .i64 q5,.int .i64 q6,.int .i64 rate] 69 j v hv;rw [add_cell] at this;exact this
 have HRG := hide hrg;clear hrg;have hwi : ∀ (n lo hi : Int) (b : Bool) (X : World),outB lo hi n = b -> Calls Tryz.prog 99 #[.int .i64 n,.int .i64 lo,.int .i64 hi] X fun e w' => e = .returned (.bool (!b)) /\ X = w' := fun n lo hi b X h => by rw [<- h]; exact rwithin_any n lo hi X
 have hpo : ∀ X,Calls Tryz.prog 101 #[.agg #[.int .i64 q0,.int .i64 q1,.int .i64 q2,.int .i64 q3,.int .i64 q4,.int .i64 q5,.int .i64 q6]] X fun e w' => e = .returned (.bool (polB q0 q1 q2 q3 q4 q5 q6)) /\ Ext X w' := fun X => rpolicy_any q0 q1 q2 q3 q4 q5 q6 X;unfold rchk;simp only;obtain ⟨m,hm⟩ : ∃ m,mchk (bl path) H = m := ⟨_,rfl⟩;obtain ⟨p,hp⟩ : ∃ m,Sp.check P = m := ⟨_,rfl⟩;obtain ⟨x,hx⟩ : ∃ m,wrchk pre S D = m := ⟨_,rfl⟩;obtain ⟨pb,hpb⟩ : ∃ m,polB q0 q1 q2 q3 q4 q5 q6 = m := ⟨_,rfl⟩;rw [hm] at hmc;rw [hp] at hpc;rw [hx] at hwr;rw [hpb] at hpo;rw [hm,hp,hx,hpb];clear hm hp hx hpb;obtain ⟨R,hR⟩ : ∃ R,(if m ≠ 0 then m else if p ≠ 0 then p else if outB 0 10 mi = true then 13 else if injB ab de ti = true then 16 else if x ≠ 0 then x else if pb = false then 16 else if outB 0 rates rate = true then 15 else 0) = R := ⟨_,rfl⟩;rw [hR];have HFIN := hide (fun (z : Int) (hz : z = R) (w9 : World) (h9 : Ext (w.alloc (.cells #[.string path,.bool ex,.slice a1 H.length c1,.slice a2 P.length c2,.int .i64 mi,.int .i64 ab,.int .i64 de,.int .i64 ti,.string pre,.slice a3 S.length c3,.slice a4 D.length c4,.int .i64 q0,.int .i64 q1,.int .i64 q2,.int .i64 q3,.int .i64 q4,.int .i64 q5,.int .i64 q6,.int .i64 rate] 69)) w9) => (⟨by rw [hz],Ext.trans e0 h9⟩ : Ending.returned (.int .i64 z) = .returned (.int .i64 R) /\ Ext w w9));have HR := hide hR;have HMC := hide hmc;have HPC := hide hpc;have HWR := hide hwr
 have HCX := hide hcx;have HWI := hide hwi;have HPO := hide hpo;have HE0 := hide e0;clear hR hmc hpc hwr hcx hwi hpo e0 hH hP hS hD zp zpre zH zS zD zP zl
 go_enter Tryz.func66,Tryz.ntmps66
 go_wp2_with fail
 generalize w.alloc (.cells #[.string path,.bool ex,.slice a1 H.length c1,.slice a2 P.length c2,.int .i64 mi,.int .i64 ab,.int .i64 de,.int .i64 ti,.string pre,.slice a3 S.length c3,.slice a4 D.length c4,.int .i64 q0,.int .i64 q1,.int .i64 q2,.int .i64 q3,.int .i64 q4,.int .i64 q5,.int .i64 q6,.int .i64 rate] 69) = W at *;generalize Value.agg #[.string path,.bool ex,.slice a1 H.length c1,.slice a2 P.length c2,.int .i64 mi,.int .i64 ab,.int .i64 de,.int .i64 ti,.string pre,.slice a3 S.length c3,.slice a4 D.length c4,.int .i64 q0,.int .i64 q1,.int .i64 q2,.int .i64 q3,.int .i64 q4,.int .i64 q5,.int .i64 q6,.int .i64 rate] = V0;refine (HMC.out _ HE0.out).mono ?_;rintro e w1 ⟨rfl,E1⟩;by_cases h0 : m = 0
 rotate_left
 ·have hb : (m != 0) = true := by simp [h0]
  have HZ := hide (show m = R by rw [<- HR.out,if_pos h0]);clear h0;go_wp2;go_ret;exact HFIN.out m HZ.out _ E1
 have hr := HR.out;clear HR;rw [if_neg (show ¬ (m ≠ 0) from fun h => h h0)] at hr;have HR := hide hr;clear hr;subst h0;obtain ⟨d0,d1,d2,d3,d4,d5,d6,d7,d8,d9,d10,d11,d12,d13,d14,d15,d16,d17,d18⟩ := HCX.out _ E1
 go_wp2_with fail
 refine (HPC.out _ (Ext.trans HE0.out E1)).mono ?_;rintro e w2 ⟨rfl,E2'⟩;have E2 := Ext.trans E1 E2';clear d0 d1 d2 d3 d4 d5 d6 d7 d8 d9 d10 d11 d12 d13 d14 d15 d16 d17 d18 E2';by_cases h0 : p = 0
 rotate_left
 ·have hb : (p != 0) = true := by simp [h0]
  have HZ := hide (show p = R by rw [<- HR.out,if_pos h0]);clear h0;go_wp2;go_ret;exact HFIN.out p HZ.out _ E2
 have hr := HR.out;clear HR;rw [if_neg (show ¬ (p ≠ 0) from fun h => h h0)] at hr;have HR := hide hr;clear hr;subst h0;obtain ⟨d0,d1,d2,d3,d4,d5,d6,d7,d8,d9,d10,d11,d12,d13,d14,d15,d16,d17,d18⟩ := HCX.out _ E2
 cases hmi : outB 0 10 mi with
 | true =>
  have HZ := hide (show 13 = R by rw [<- HR.out,hmi]; rfl);have HM := hide hmi;clear hmi
  go_wp2_with fail
  refine (HWI.out mi 0 10 _ _ HM.out).mono ?_;rintro e w3 ⟨rfl,rfl⟩;go_wp2;go_ret
  exact HFIN.out 13 HZ.out _ E2
 | false =>
 have hr := HR.out;clear HR;rw [hmi] at hr;have HR := hide hr;have HM := hide hmi;clear hr hmi
 go_wp2_with fail
 refine (HWI.out mi 0 10 _ _ HM.out).mono ?_;rintro e w3 ⟨rfl,rfl⟩
 go_wp2_with fail
 cases h1 : outB 0 10000 ab with
 | true =>
  have HZ := hide (show 16 = R by rw [<- HR.out]; simp [injB,h1]);have HM1 := hide h1;clear h1;refine (HWI.out ab 0 10000 _ _ HM1.out).mono ?_;rintro e w3 ⟨rfl,rfl⟩;go_wp2;go_ret
  exact HFIN.out 16 HZ.out _ E2
 | false =>
 have HM1 := hide h1;clear h1;refine (HWI.out ab 0 10000 _ _ HM1.out).mono ?_;rintro e w3 ⟨rfl,rfl⟩
 go_wp2_with fail
 cases h1 : outB 0 10000 de with
 | true =>
  have HZ := hide (show 16 = R by rw [<- HR.out]; simp [injB,h1]);have HM2 := hide h1;clear h1;refine (HWI.out de 0 10000 _ _ HM2.out).mono ?_;rintro e w3 ⟨rfl,rfl⟩;go_wp2;go_ret
  exact HFIN.out 16 HZ.out _ E2
 | false =>
 have HM2 := hide h1;clear h1;refine (HWI.out de 0 10000 _ _ HM2.out).mono ?_;rintro e w3 ⟨rfl,rfl⟩
 go_wp2_with fail
 cases h1 : outB 0 10000 ti with
 | true =>
  have HZ := hide (show 16 = R by rw [<- HR.out]; simp [injB,h1]);have HM3 := hide h1;clear h1;refine (HWI.out ti 0 10000 _ _ HM3.out).mono ?_;rintro e w3 ⟨rfl,rfl⟩;go_wp2;go_ret
  exact HFIN.out 16 HZ.out _ E2
 | false =>
 have hr := HR.out;clear HR;rw [if_neg (show ¬ (false = true) by simp),if_neg (show ¬ (injB ab de ti = true) by simp [injB,HM1.out,HM2.out,h1])] at hr;have HR := hide hr;have HM3 := hide h1;clear hr h1;refine (HWI.out ti 0 10000 _ _ HM3.out).mono ?_;rintro e w3 ⟨rfl,rfl⟩
 go_upto_region 11 with (fail)
 obtain ⟨dd,hd1,hd2⟩ := Tryz.ruleDesc;refine wp_region_lit ?_;refine wpList_load_mid rfl 69 (.tmp 2) rfl w.heap.size 0 rfl [.string path,.bool ex,.slice a1 H.length c1,.slice a2 P.length c2,.int .i64 mi,.int .i64 ab,.int .i64 de,.int .i64 ti,.string pre,.slice a3 S.length c3,.slice a4 D.length c4,.int .i64 q0,.int .i64 q1,.int .i64 q2,.int .i64 q3,.int .i64 q4,.int .i64 q5,.int .i64 q6,.int .i64 rate] dd (HRG.out _ E2) hd1 hd2 Tryz.ruleSize ?_;simp only [Act.put,List.setIfInBounds_toArray,List.set_cons_zero,List.set_cons_succ];clear hd1 hd2
 go_wp2_with fail
 refine (HWR.out _ (Ext.trans HE0.out E2)).mono ?_;rintro e w4 ⟨rfl,E4'⟩;have E4 := Ext.trans E2 E4';clear d0 d1 d2 d3 d4 d5 d6 d7 d8 d9 d10 d11 d12 d13 d14 d15 d16 d17 d18 E4';by_cases h0 : x = 0
 rotate_left
 ·have hb : (x != 0) = true := by simp [h0]
  have HZ := hide (show x = R by rw [<- HR.out,if_pos h0]);clear h0;go_wp2;go_ret;exact HFIN.out x HZ.out _ E4
 have hr := HR.out;clear HR;rw [if_neg (show ¬ (x ≠ 0) from fun h => h h0)] at hr;have HR := hide hr;clear hr;subst h0;obtain ⟨d0,d1,d2,d3,d4,d5,d6,d7,d8,d9,d10,d11,d12,d13,d14,d15,d16,d17,d18⟩ := HCX.out _ E4
 go_wp2_with fail
 refine (HPO.out _).mono ?_;rintro e w5 ⟨rfl,E5'⟩;have E5 := Ext.trans E4 E5';clear d0 d1 d2 d3 d4 d5 d6 d7 d8 d9 d10 d11 d12 d13 d14 d15 d16 d17 d18 E5'
 cases pb with
 | false =>
  have HZ := hide (show 16 = R by rw [<- HR.out]; rfl);go_wp2;go_ret
  exact HFIN.out 16 HZ.out _ E5
 | true =>
 have hr := HR.out;clear HR;rw [if_neg (show ¬ (true = false) by simp)] at hr;have HR := hide hr;clear hr;obtain ⟨d0,d1,d2,d3,d4,d5,d6,d7,d8,d9,d10,d11,d12,d13,d14,d15,d16,d17,d18⟩ := HCX.out _ E5
 go_wp2_with fail
 cases h1 : outB 0 rates rate with
 | true =>
  have HZ := hide (show 15 = R by rw [<- HR.out,h1]; rfl);have HM := hide h1;clear h1;refine (HWI.out rate 0 rates _ _ HM.out).mono ?_;rintro e w3 ⟨rfl,rfl⟩;go_wp2;go_ret
  exact HFIN.out 15 HZ.out _ E5
 | false =>
  have HZ := hide (show 0 = R by rw [<- HR.out,h1]; rfl);have HM := hide h1;clear h1;refine (HWI.out rate 0 rates _ _ HM.out).mono ?_;rintro e w3 ⟨rfl,rfl⟩;go_wp2;go_ret;exact HFIN.out 0 HZ.out _ E5
def Same (r r' : RuleD) : Prop := ∃ a b c d,r' = { r with hv := a,pv := b,sv := c,dv := d }
def RuleOwn (B : Nat) (w : World) (r : RuleD) : Prop :=
 w.ownsRow B 114 2 r.hv r.H.length (r.H.flatMap encH) /\ w.ownsRow B 72 2 r.pv r.P.length (r.P.flatMap encP) /\
 w.ownsRow B 114 2 r.sv r.S.length (r.S.flatMap encH) /\ w.ownsRow B 9 1 r.dv r.D.length (r.D.flatMap encS)
theorem encP_len' (p : Int × Int) : (encP p).length = 2 := rfl
theorem RuleOwn.ok {B : Nat} {w : World} {r : RuleD} (h : RuleOwn B w r) : RuleOk w r := ⟨Sl.of_own' encH_len h.1,Sl.of_own' encP_len' h.2.1,Sl.of_own' encH_len h.2.2.1,Sl.of_own' encS_len h.2.2.2⟩
def RuleD.has (r : RuleD) (g : Nat) : Prop := r.hv.ownBlock = some g \/ r.pv.ownBlock = some g \/ r.sv.ownBlock = some g \/ r.dv.ownBlock = some g
theorem RuleOwn.keeps {X : Nat -> Prop} {B : Nat} {w w' : World} {r : RuleD} (h : RuleOwn B w r) (k : Keeps X w w') (hx : ∀ g,r.has g -> ¬ X g) : RuleOwn B w' r :=
 ⟨owns_keeps h.1 k fun g hg => hx g (.inl hg),owns_keeps h.2.1 k fun g hg => hx g (.inr (.inl hg)),owns_keeps h.2.2.1 k fun g hg => hx g (.inr (.inr (.inl hg))),owns_keeps h.2.2.2 k fun g hg => hx g (.inr (.inr (.inr hg)))⟩
theorem RuleOwn.ext {B : Nat} {w w' : World} {r : RuleD} (h : RuleOwn B w r) (k : Ext w w') : RuleOwn B w' r := ⟨owns_ext h.1 k,owns_ext h.2.1 k,owns_ext h.2.2.1 k,owns_ext h.2.2.2 k⟩
theorem RuleOwn.ge {B : Nat} {w : World} {r : RuleD} (h : RuleOwn B w r) {g : Nat} (hg : r.has g) : B <= g /\ g < w.heap.size := by
 rcases hg with hg | hg | hg | hg
 ·exact h.1.lt g hg
 ·exact h.2.1.lt g hg
 ·exact h.2.2.1.lt g hg
 ·exact h.2.2.2.lt g hg
theorem RuleOwn.type {B : Nat} {w : World} {r : RuleD} (h : RuleOwn B w r) {g : Nat} (hg : r.has g) {cs : Array Value} {e : TypeId} {f : Nat × Nat} (hh : w.heap[g]? = some (.cells cs e f)) : e = 114 \/ e = 72 \/ e = 9 := by
 rcases hg with hg | hg | hg | hg
 ·exact .inl (owns_type h.1 hg hh)
 ·exact .inr (.inl (owns_type h.2.1 hg hh))
 ·exact .inl (owns_type h.2.2.1 hg hh)
 ·exact .inr (.inr (owns_type h.2.2.2 hg hh))
theorem RuleOwn.mono {B B' : Nat} {w : World} {r : RuleD} (h : RuleOwn B w r) (hB : B' <= B) : RuleOwn B' w r := by
 have m : ∀ {e : TypeId} {size : Nat} {v : Value} {n : Nat} {xs : List Value},w.ownsRow B e size v n xs -> w.ownsRow B' e size v n xs := fun h => by
  obtain ⟨h1,h2⟩ := h;refine ⟨h1, ?_⟩;rcases h2 with h2 | ⟨g,cap,cur,hv,hg,r⟩
  ·exact .inl h2
  ·exact .inr ⟨g,cap,cur,hv,by omega,r⟩
 exact ⟨m h.1,m h.2.1,m h.2.2.1,m h.2.2.2⟩
def BoxR (w : World) (b : Nat) (r : RuleD) : Prop := ∃ cs,w.heap[b]? = some (.cells cs 69 (0,0)) /\ cs.toList = encR r
theorem BoxR.cellR {w : World} {b : Nat} {r : RuleD} (h : BoxR w b r) : CellR w b r := by
 obtain ⟨cs,hb,hc⟩ := h;refine ⟨(zg hb),fun j u hu => ?_⟩;rw [<- hc] at hu;simp only [World.cell?,hb];simpa using hu
theorem BoxR.frozen {w : World} {b : Nat} {r : RuleD} (h : BoxR w b r) (o : Nat) : w.frozen? ⟨b,o,none⟩ = false := by
 obtain ⟨cs,hb,hc⟩ := h;simp [World.frozen?,hb]
theorem BoxR.keep {w w' : World} {b : Nat} {r : RuleD} (h : BoxR w b r) (k : w'.heap[b]? = w.heap[b]?) : BoxR w' b r := by
 obtain ⟨cs,hb,hc⟩ := h;exact ⟨cs,k.trans hb,hc⟩
theorem BoxR.lt {w : World} {b : Nat} {r : RuleD} (h : BoxR w b r) : b < w.heap.size := h.cellR.1
theorem BoxR.set {w : World} {b : Nat} {r r' : RuleD} (h : BoxR w b r) (j : Nat) (v : Value) (hr : encR r' = (encR r).set j v) : BoxR (w.setCell ⟨b,j,none⟩ v) b r' := by
 obtain ⟨cs,hb,hc⟩ := h;obtain ⟨hlt,hk⟩ := Array.getElem?_eq_some_iff.1 hb;refine ⟨cs.setIfInBounds j v, ?_,by rw [hr,<- hc]; simp⟩;show (w.heap.modify b _)[b]? = _;rw [Array.getElem?_eq_getElem (by rw [Array.size_modify]; exact hlt),Array.getElem_modify_self,hk];rfl
theorem results_cell_mid {P : Program} {fn : Func} {p : Tmp} {ty : TypeId} (h : fn.results = #[.cell p ty]) (tmps : Array Value) (w : World) (b o : Nat) (cs : List Value) (d : TypeDesc)
  (hp : tmps.getD p undef = .pointer (some ⟨b,o,none⟩)) (hc : w.rangeAt b o cs) (hu : P.underlying ty = some d) (hd : d.isRow = true) (hi : (P.info? ty).map (·.size) = some cs.length) :
  (results fn tmps).run P w = .ok (.agg cs.toArray) w := by
 have hp' : tmps[p]?.getD undef = .pointer (some ⟨b,o,none⟩) := by simpa using hp
 simp [results,h,hp',asAddr,run_loadVar_mid w b o ty cs d hc hu hd hi]
theorem keeps_setCells (b : Nat) : ∀ (vs : List Value) (o : Nat) (w : World),Keeps (fun g => g = b) w (w.setCells b o vs)
 | [],_,w => Keeps.refl _ w
 | v :: r,o,w => (Keeps.of_set (X := fun g => g = b) w b o v rfl).trans (keeps_setCells b r (o + 1) _)
theorem encH_one (h : HeadD) : ∀ u ∈ encH h,u.oneCell' = true := by
 intro u hu;simp [encH] at hu;rcases hu with rfl | rfl <;> rfl
theorem encP_one (h : Int × Int) : ∀ u ∈ encP h,u.oneCell' = true := by
 intro u hu;simp [encP] at hu;rcases hu with rfl | rfl <;> rfl
theorem encS_one (h : ByteArray) : ∀ u ∈ encS h,u.oneCell' = true := by
 intro u hu;simp [encS] at hu;subst hu;rfl
theorem encI_one (h : Int) : ∀ u ∈ encI h,u.oneCell' = true := by
 intro u hu;simp [encI] at hu;subst hu;rfl
theorem Tryz.infoH : (Tryz.prog.info? 114).map (fun i => (i.zero,i.size,i.bytes)) = some (some (.agg #[.string ByteArray.empty,.string ByteArray.empty]),2,32) := by kernel_rfl
theorem Tryz.infoP : (Tryz.prog.info? 72).map (fun i => (i.zero,i.size,i.bytes)) = some (some (.agg #[.int .i64 0,.int .i64 0]),2,16) := by kernel_rfl
theorem twin_any (r : RuleD) (w : World) (hok : RuleOk w r) (hl : r.H.length <= 1000000 /\ r.P.length <= 1000000 /\ r.S.length <= 1000000 /\ r.D.length <= 1000000) :
  Calls Tryz.prog 43 #[r.val] w fun e w' => ∃ r',e = .returned r'.val /\ Same r r' /\ RuleOwn w.heap.size w' r' /\ Ext w w' := by
 obtain ⟨ih,hih0,hih1,hih2,hih3⟩ := info_partsS Tryz.infoH;obtain ⟨ip,hip0,hip1,hip2,hip3⟩ := info_partsS Tryz.infoP;obtain ⟨is,his0,his1,his2,his3⟩ := info_partsS Tryz.infoS;obtain ⟨path,ex,hv,H,pv,P,mi,ab,de,ti,pre,sv,S,dv,D,q0,q1,q2,q3,q4,q5,q6,rate⟩ := r;obtain ⟨hH,hP,hS,hD⟩ := hok;obtain ⟨l1,l2,l3,l4⟩ := hl;simp only [RuleD.val] at *;obtain ⟨_,a1,c1,rfl⟩ := hH.shape;obtain ⟨_,a2,c2,rfl⟩ := hP.shape;obtain ⟨_,a3,c3,rfl⟩ := hS.shape;obtain ⟨_,a4,c4,rfl⟩ := hD.shape
 go_enter Tryz.func43,Tryz.ntmps43
 go_upto_region 1 with (fail)
 generalize hW : World.alloc (World.alloc w (.cells #[.string path,.bool ex,.slice a1 H.length c1,.slice a2 P.length c2,.int .i64 mi,.int .i64 ab,.int .i64 de,.int .i64 ti,.string pre,.slice a3 S.length c3,.slice a4 D.length c4,.int .i64 q0,.int .i64 q1,.int .i64 q2,.int .i64 q3,.int .i64 q4,.int .i64 q5,.int .i64 q6,.int .i64 rate] 69)) (.cells #[.string ⟨#[]⟩,.bool false,.slice none 0 0,.slice none 0 0,.int .i64 0,.int .i64 0,.int .i64 0,.int .i64 0,.string ⟨#[]⟩,.slice none 0 0,.slice none 0 0,.int .i64 0,.int .i64 0,.int .i64 0,.int .i64 0,.int .i64 0,.int .i64 0,.int .i64 0,.int .i64 0] 69) = W0
 have hb : BoxR W0 w.heap.size (⟨path,ex,.slice a1 H.length c1,H,.slice a2 P.length c2,P,mi,ab,de,ti,pre,.slice a3 S.length c3,S,.slice a4 D.length c4,D,q0,q1,q2,q3,q4,q5,q6,rate⟩ : RuleD) := by
  subst hW;exact ⟨#[.string path,.bool ex,.slice a1 H.length c1,.slice a2 P.length c2,.int .i64 mi,.int .i64 ab,.int .i64 de,.int .i64 ti,.string pre,.slice a3 S.length c3,.slice a4 D.length c4,.int .i64 q0,.int .i64 q1,.int .i64 q2,.int .i64 q3,.int .i64 q4,.int .i64 q5,.int .i64 q6,.int .i64 rate],(Below.heap_alloc _ _ _ (by simp)).trans (heap_alloc_new w _),rfl⟩
 have hr : ∃ cs : Array Value,W0.heap[w.heap.size + 1]? = some (.cells cs 69 (0,0)) /\ cs.size = 19 := by
  subst hW;refine ⟨#[.string ⟨#[]⟩,.bool false,.slice none 0 0,.slice none 0 0,.int .i64 0,.int .i64 0,.int .i64 0,.int .i64 0,.string ⟨#[]⟩,.slice none 0 0,.slice none 0 0,.int .i64 0,.int .i64 0,.int .i64 0,.int .i64 0,.int .i64 0,.int .i64 0,.int .i64 0,.int .i64 0], ?_,rfl⟩;have := heap_alloc_new (World.alloc w (.cells #[.string path,.bool ex,.slice a1 H.length c1,.slice a2 P.length c2,.int .i64 mi,.int .i64 ab,.int .i64 de,.int .i64 ti,.string pre,.slice a3 S.length c3,.slice a4 D.length c4,.int .i64 q0,.int .i64 q1,.int .i64 q2,.int .i64 q3,.int .i64 q4,.int .i64 q5,.int .i64 q6,.int .i64 rate] 69)) (.cells #[.string ⟨#[]⟩,.bool false,.slice none 0 0,.slice none 0 0,.int .i64 0,.int .i64 0,.int .i64 0,.int .i64 0,.string ⟨#[]⟩,.slice none 0 0,.slice none 0 0,.int .i64 0,.int .i64 0,.int .i64 0,.int .i64 0,.int .i64 0,.int .i64 0,.int .i64 0,.int .i64 0] 69);simpa using this
 have hE0 : Ext w W0 := by
  subst hW;exact za.alloc (by simp) _
 clear hW;have HH := hide hH;have HP := hide hP;have HS := hide hS;have HD := hide hD;clear hH hP hS hD;refine wp_region_lit ?_;have hc1 := hb.cellR.2 2 _ rfl
 iterate 3 (refine wpList_plain rfl fun K hK => ?_; go_simp; refine hK _ _ ?_)
 clear hc1;refine wpList_append_sl (enc := encH) rfl _ _ _ rfl w.heap.size 114 ih _ 2 32 rfl hih0 hih1 hih2 hih3 rfl (by decide) encH_len (.slice none 0 0) 0 [] rfl (World.ownsRow_nil _ _ _ _) _ rfl H (HH.out.ext hE0) (fun x _ => encH_one x) (by unfold maxLen; omega) (by omega) hE0.size ?_;intro a w1 hown1 hg1;rw [Nat.zero_add,List.nil_append] at hown1;obtain ⟨x1,y1,hv1⟩ := owns_shape hown1;subst hv1;have hx1 : Ext W0 w1 := (Keeps.of_grown (X := fun _ => False) hg1 (fun _ h => by cases h)).below (Nat.le_refl _) (fun _ h => h.elim);have hb1 := hb.keep (hx1.block _ hb.lt);have hc1 := hb1.cellR.2 2 _ rfl;have hz1 := hb1.frozen 2
 iterate 3 (refine wpList_plain rfl fun K hK => ?_; go_simp; refine hK _ _ ?_)
 have hbs := hb1.set (r' := (⟨path,ex,(.slice x1 H.length y1),H,.slice a2 P.length c2,P,mi,ab,de,ti,pre,.slice a3 S.length c3,S,.slice a4 D.length c4,D,q0,q1,q2,q3,q4,q5,q6,rate⟩ : RuleD)) 2 (.slice x1 H.length y1) rfl;have hks : Keeps (fun g => g = w.heap.size) w1 (w1.setCell ⟨w.heap.size,2,none⟩ (.slice x1 H.length y1)) := Keeps.of_set _ _ _ _ rfl
 have hno : ∀ g,((.slice x1 H.length y1) : Value).ownBlock = some g -> ¬ g = w.heap.size := fun g hg e => by
  obtain ⟨cs,hcs,-⟩ := hb1;subst e;exact absurd (owns_type hown1 hg hcs) (by decide)
 have hownS := owns_keeps hown1 hks hno;have hEn : Ext w (w1.setCell ⟨w.heap.size,2,none⟩ (.slice x1 H.length y1)) := Keeps.ext (Ext.trans hE0 hx1) hks (fun k h => by omega)
 have hrs : ∃ cs : Array Value,(w1.setCell ⟨w.heap.size,2,none⟩ (.slice x1 H.length y1)).heap[w.heap.size + 1]? = some (.cells cs 69 (0,0)) /\ cs.size = 19 := by
  obtain ⟨cs,h1,h2⟩ := hr;exact ⟨cs,(hks.block _ (Nat.lt_of_lt_of_le (zg h1) hx1.size) (by omega)).trans ((hx1.block _ (zg h1)).trans h1),h2⟩
 generalize (w1.setCell ⟨w.heap.size,2,none⟩ (.slice x1 H.length y1)) = W1 at *;clear hc1 hz1 hks hno  hb hr hb1 hx1 hg1 hown1 hE0;have hown1 := hownS;clear hownS;have hb := hbs;clear hbs;have hE1 := hEn;clear hEn;have hr := hrs;clear hrs;refine wpList_nil ?_
 go_upto_region 2 with (fail)
 refine wp_region_lit ?_;have hc2 := hb.cellR.2 3 _ rfl
 iterate 2 (refine wpList_plain rfl fun K hK => ?_; go_simp; refine hK _ _ ?_)
 clear hc2;refine wpList_append_sl (enc := encP) rfl _ _ _ rfl w.heap.size 72 ip _ 2 16 rfl hip0 hip1 hip2 hip3 rfl (by decide) encP_len' (.slice none 0 0) 0 [] rfl (World.ownsRow_nil _ _ _ _) _ rfl P (HP.out.ext hE1) (fun x _ => encP_one x) (by unfold maxLen; omega) (by omega) hE1.size ?_;intro b w2 hown2 hg2;rw [Nat.zero_add,List.nil_append] at hown2;obtain ⟨x2,y2,hv2⟩ := owns_shape hown2;subst hv2;have hx2 : Ext W1 w2 := (Keeps.of_grown (X := fun _ => False) hg2 (fun _ h => by cases h)).below (Nat.le_refl _) (fun _ h => h.elim);have hb2 := hb.keep (hx2.block _ hb.lt);have hc2 := hb2.cellR.2 3 _ rfl;have hz2 := hb2.frozen 3
 iterate 2 (refine wpList_plain rfl fun K hK => ?_; go_simp; refine hK _ _ ?_)
 have hbs := hb2.set (r' := (⟨path,ex,(.slice x1 H.length y1),H,(.slice x2 P.length y2),P,mi,ab,de,ti,pre,.slice a3 S.length c3,S,.slice a4 D.length c4,D,q0,q1,q2,q3,q4,q5,q6,rate⟩ : RuleD)) 3 (.slice x2 P.length y2) rfl;have hks : Keeps (fun g => g = w.heap.size) w2 (w2.setCell ⟨w.heap.size,3,none⟩ (.slice x2 P.length y2)) := Keeps.of_set _ _ _ _ rfl
 have hno : ∀ g,((.slice x2 P.length y2) : Value).ownBlock = some g -> ¬ g = w.heap.size := fun g hg e => by
  obtain ⟨cs,hcs,-⟩ := hb2;subst e;exact absurd (owns_type hown2 hg hcs) (by decide)
 have hownS := owns_keeps hown2 hks hno
 have hno1 : ∀ g,((.slice x1 H.length y1) : Value).ownBlock = some g -> ¬ g = w.heap.size := fun g hg e => by
  obtain ⟨cs,hcs,-⟩ := hb2;subst e;exact absurd (owns_type (owns_ext hown1 hx2) hg hcs) (by decide)
 have hown1S := owns_keeps (owns_ext hown1 hx2) hks hno1;have hEn : Ext w (w2.setCell ⟨w.heap.size,3,none⟩ (.slice x2 P.length y2)) := Keeps.ext (Ext.trans hE1 hx2) hks (fun k h => by omega)
 have hrs : ∃ cs : Array Value,(w2.setCell ⟨w.heap.size,3,none⟩ (.slice x2 P.length y2)).heap[w.heap.size + 1]? = some (.cells cs 69 (0,0)) /\ cs.size = 19 := by
  obtain ⟨cs,h1,h2⟩ := hr;exact ⟨cs,(hks.block _ (Nat.lt_of_lt_of_le (zg h1) hx2.size) (by omega)).trans ((hx2.block _ (zg h1)).trans h1),h2⟩
 generalize (w2.setCell ⟨w.heap.size,3,none⟩ (.slice x2 P.length y2)) = W2 at *;clear hc2 hz2 hks hno hno1 hb hr hb2 hx2 hg2 hown2 hE1 hown1;have hown2 := hownS;clear hownS;have hb := hbs;clear hbs;have hE2 := hEn;clear hEn;have hr := hrs;clear hrs;have hown1 := hown1S;clear hown1S;refine wpList_nil ?_
 go_upto_region 3 with (fail)
 refine wp_region_lit ?_;have hc3 := hb.cellR.2 9 _ rfl
 iterate 2 (refine wpList_plain rfl fun K hK => ?_; go_simp; refine hK _ _ ?_)
 clear hc3;refine wpList_append_sl (enc := encH) rfl _ _ _ rfl w.heap.size 114 ih _ 2 32 rfl hih0 hih1 hih2 hih3 rfl (by decide) encH_len (.slice none 0 0) 0 [] rfl (World.ownsRow_nil _ _ _ _) _ rfl S (HS.out.ext hE2) (fun x _ => encH_one x) (by unfold maxLen; omega) (by omega) hE2.size ?_;intro c w3 hown3 hg3;rw [Nat.zero_add,List.nil_append] at hown3;obtain ⟨x3,y3,hv3⟩ := owns_shape hown3;subst hv3;have hx3 : Ext W2 w3 := (Keeps.of_grown (X := fun _ => False) hg3 (fun _ h => by cases h)).below (Nat.le_refl _) (fun _ h => h.elim);have hb3 := hb.keep (hx3.block _ hb.lt);have hc3 := hb3.cellR.2 9 _ rfl;have hz3 := hb3.frozen 9
 iterate 2 (refine wpList_plain rfl fun K hK => ?_; go_simp; refine hK _ _ ?_)
 have hbs := hb3.set (r' := (⟨path,ex,(.slice x1 H.length y1),H,(.slice x2 P.length y2),P,mi,ab,de,ti,pre,(.slice x3 S.length y3),S,.slice a4 D.length c4,D,q0,q1,q2,q3,q4,q5,q6,rate⟩ : RuleD)) 9 (.slice x3 S.length y3) rfl;have hks : Keeps (fun g => g = w.heap.size) w3 (w3.setCell ⟨w.heap.size,9,none⟩ (.slice x3 S.length y3)) := Keeps.of_set _ _ _ _ rfl
 have hno : ∀ g,((.slice x3 S.length y3) : Value).ownBlock = some g -> ¬ g = w.heap.size := fun g hg e => by
  obtain ⟨cs,hcs,-⟩ := hb3;subst e;exact absurd (owns_type hown3 hg hcs) (by decide)
 have hownS := owns_keeps hown3 hks hno
 have hno1 : ∀ g,((.slice x1 H.length y1) : Value).ownBlock = some g -> ¬ g = w.heap.size := fun g hg e => by
  obtain ⟨cs,hcs,-⟩ := hb3;subst e;exact absurd (owns_type (owns_ext hown1 hx3) hg hcs) (by decide)
 have hown1S := owns_keeps (owns_ext hown1 hx3) hks hno1
 have hno2 : ∀ g,((.slice x2 P.length y2) : Value).ownBlock = some g -> ¬ g = w.heap.size := fun g hg e => by
  obtain ⟨cs,hcs,-⟩ := hb3;subst e;exact absurd (owns_type (owns_ext hown2 hx3) hg hcs) (by decide)
 have hown2S := owns_keeps (owns_ext hown2 hx3) hks hno2;have hEn : Ext w (w3.setCell ⟨w.heap.size,9,none⟩ (.slice x3 S.length y3)) := Keeps.ext (Ext.trans hE2 hx3) hks (fun k h => by omega)
 have hrs : ∃ cs : Array Value,(w3.setCell ⟨w.heap.size,9,none⟩ (.slice x3 S.length y3)).heap[w.heap.size + 1]? = some (.cells cs 69 (0,0)) /\ cs.size = 19 := by
  obtain ⟨cs,h1,h2⟩ := hr;exact ⟨cs,(hks.block _ (Nat.lt_of_lt_of_le (zg h1) hx3.size) (by omega)).trans ((hx3.block _ (zg h1)).trans h1),h2⟩
 generalize (w3.setCell ⟨w.heap.size,9,none⟩ (.slice x3 S.length y3)) = W3 at *;clear hc3 hz3 hks hno hno1 hno2 hb hr hb3 hx3 hg3 hown3 hE2 hown1 hown2;have hown3 := hownS;clear hownS;have hb := hbs;clear hbs;have hE3 := hEn;clear hEn;have hr := hrs;clear hrs;have hown1 := hown1S;clear hown1S;have hown2 := hown2S;clear hown2S;refine wpList_nil ?_
 go_upto_region 4 with (fail)
 refine wp_region_lit ?_;have hc4 := hb.cellR.2 10 _ rfl
 iterate 2 (refine wpList_plain rfl fun K hK => ?_; go_simp; refine hK _ _ ?_)
 clear hc4;refine wpList_append_sl (enc := encS) rfl _ _ _ rfl w.heap.size 9 is _ 1 16 rfl his0 his1 his2 his3 rfl (by decide) encS_len (.slice none 0 0) 0 [] rfl (World.ownsRow_nil _ _ _ _) _ rfl D (HD.out.ext hE3) (fun x _ => encS_one x) (by unfold maxLen; omega) (by omega) hE3.size ?_;intro d w4 hown4 hg4;rw [Nat.zero_add,List.nil_append] at hown4;obtain ⟨x4,y4,hv4⟩ := owns_shape hown4;subst hv4;have hx4 : Ext W3 w4 := (Keeps.of_grown (X := fun _ => False) hg4 (fun _ h => by cases h)).below (Nat.le_refl _) (fun _ h => h.elim);have hb4 := hb.keep (hx4.block _ hb.lt);have hc4 := hb4.cellR.2 10 _ rfl;have hz4 := hb4.frozen 10
 iterate 2 (refine wpList_plain rfl fun K hK => ?_; go_simp; refine hK _ _ ?_)
 have hbs := hb4.set (r' := (⟨path,ex,(.slice x1 H.length y1),H,(.slice x2 P.length y2),P,mi,ab,de,ti,pre,(.slice x3 S.length y3),S,(.slice x4 D.length y4),D,q0,q1,q2,q3,q4,q5,q6,rate⟩ : RuleD)) 10 (.slice x4 D.length y4) rfl;have hks : Keeps (fun g => g = w.heap.size) w4 (w4.setCell ⟨w.heap.size,10,none⟩ (.slice x4 D.length y4)) := Keeps.of_set _ _ _ _ rfl
 have hno : ∀ g,((.slice x4 D.length y4) : Value).ownBlock = some g -> ¬ g = w.heap.size := fun g hg e => by
  obtain ⟨cs,hcs,-⟩ := hb4;subst e;exact absurd (owns_type hown4 hg hcs) (by decide)
 have hownS := owns_keeps hown4 hks hno
 have hno1 : ∀ g,((.slice x1 H.length y1) : Value).ownBlock = some g -> ¬ g = w.heap.size := fun g hg e => by
  obtain ⟨cs,hcs,-⟩ := hb4;subst e;exact absurd (owns_type (owns_ext hown1 hx4) hg hcs) (by decide)
 have hown1S := owns_keeps (owns_ext hown1 hx4) hks hno1
 have hno2 : ∀ g,((.slice x2 P.length y2) : Value).ownBlock = some g -> ¬ g = w.heap.size := fun g hg e => by
  obtain ⟨cs,hcs,-⟩ := hb4;subst e;exact absurd (owns_type (owns_ext hown2 hx4) hg hcs) (by decide)
 have hown2S := owns_keeps (owns_ext hown2 hx4) hks hno2
 have hno3 : ∀ g,((.slice x3 S.length y3) : Value).ownBlock = some g -> ¬ g = w.heap.size := fun g hg e => by
  obtain ⟨cs,hcs,-⟩ := hb4;subst e;exact absurd (owns_type (owns_ext hown3 hx4) hg hcs) (by decide)
 have hown3S := owns_keeps (owns_ext hown3 hx4) hks hno3;have hEn : Ext w (w4.setCell ⟨w.heap.size,10,none⟩ (.slice x4 D.length y4)) := Keeps.ext (Ext.trans hE3 hx4) hks (fun k h => by omega)
 have hrs : ∃ cs : Array Value,(w4.setCell ⟨w.heap.size,10,none⟩ (.slice x4 D.length y4)).heap[w.heap.size + 1]? = some (.cells cs 69 (0,0)) /\ cs.size = 19 := by
  obtain ⟨cs,h1,h2⟩ := hr;exact ⟨cs,(hks.block _ (Nat.lt_of_lt_of_le (zg h1) hx4.size) (by omega)).trans ((hx4.block _ (zg h1)).trans h1),h2⟩
 generalize (w4.setCell ⟨w.heap.size,10,none⟩ (.slice x4 D.length y4)) = W4 at *;clear hc4 hz4 hks hno hno1 hno2 hno3 hb hr hb4 hx4 hg4 hown4 hE3 hown1 hown2 hown3;have hown4 := hownS;clear hownS;have hb := hbs;clear hbs;have hE4 := hEn;clear hEn;have hr := hrs;clear hrs;have hown1 := hown1S;clear hown1S;have hown2 := hown2S;clear hown2S;have hown3 := hown3S;clear hown3S;refine wpList_nil ?_
 go_upto_region 5 with (fail)
 refine wp_region_lit ?_;obtain ⟨dd,hd1,hd2⟩ := Tryz.ruleDesc;have hrg : W4.rangeAt w.heap.size 0 [.string path,.bool ex,(.slice x1 H.length y1),(.slice x2 P.length y2),.int .i64 mi,.int .i64 ab,.int .i64 de,.int .i64 ti,.string pre,(.slice x3 S.length y3),(.slice x4 D.length y4),.int .i64 q0,.int .i64 q1,.int .i64 q2,.int .i64 q3,.int .i64 q4,.int .i64 q5,.int .i64 q6,.int .i64 rate] := fun j v hv => by rw [Nat.zero_add]; exact hb.cellR.2 j v hv
 refine wpList_load_mid rfl 69 (.tmp 1) rfl w.heap.size 0 rfl [.string path,.bool ex,(.slice x1 H.length y1),(.slice x2 P.length y2),.int .i64 mi,.int .i64 ab,.int .i64 de,.int .i64 ti,.string pre,(.slice x3 S.length y3),(.slice x4 D.length y4),.int .i64 q0,.int .i64 q1,.int .i64 q2,.int .i64 q3,.int .i64 q4,.int .i64 q5,.int .i64 q6,.int .i64 rate] dd hrg hd1 hd2 Tryz.ruleSize ?_
 have hth : W4.there (w.heap.size + 1) 0 19 := fun j hj => by
  obtain ⟨cs,h1,h2⟩ := hr;rw [Nat.zero_add];refine ⟨?_,by simp [World.frozen?,h1]⟩;simp only [World.cell?,h1];simp [h2,hj]
 refine wpList_store_mid rfl 69 (.tmp 2) (.tmp 21) rfl (w.heap.size + 1) 0 (#[.string path,.bool ex,(.slice x1 H.length y1),(.slice x2 P.length y2),.int .i64 mi,.int .i64 ab,.int .i64 de,.int .i64 ti,.string pre,(.slice x3 S.length y3),(.slice x4 D.length y4),.int .i64 q0,.int .i64 q1,.int .i64 q2,.int .i64 q3,.int .i64 q4,.int .i64 q5,.int .i64 q6,.int .i64 rate]) rfl rfl hth Tryz.ruleSize (by simp [Value.oneCell']) ?_;refine wpList_nil ?_;have hrs := World.rangeAt_setCells_same W4 (w.heap.size + 1) 0 [.string path,.bool ex,(.slice x1 H.length y1),(.slice x2 P.length y2),.int .i64 mi,.int .i64 ab,.int .i64 de,.int .i64 ti,.string pre,(.slice x3 S.length y3),(.slice x4 D.length y4),.int .i64 q0,.int .i64 q1,.int .i64 q2,.int .i64 q3,.int .i64 q4,.int .i64 q5,.int .i64 q6,.int .i64 rate] hth;have hk5 := keeps_setCells (w.heap.size + 1) [.string path,.bool ex,(.slice x1 H.length y1),(.slice x2 P.length y2),.int .i64 mi,.int .i64 ab,.int .i64 de,.int .i64 ti,.string pre,(.slice x3 S.length y3),(.slice x4 D.length y4),.int .i64 q0,.int .i64 q1,.int .i64 q2,.int .i64 q3,.int .i64 q4,.int .i64 q5,.int .i64 q6,.int .i64 rate] 0 W4;generalize W4.setCells (w.heap.size + 1) 0 [.string path,.bool ex,(.slice x1 H.length y1),(.slice x2 P.length y2),.int .i64 mi,.int .i64 ab,.int .i64 de,.int .i64 ti,.string pre,(.slice x3 S.length y3),(.slice x4 D.length y4),.int .i64 q0,.int .i64 q1,.int .i64 q2,.int .i64 q3,.int .i64 q4,.int .i64 q5,.int .i64 q6,.int .i64 rate] = W5 at hrs hk5 ⊢
 obtain ⟨cs5,hr1,hr2⟩ := hr
 have hn1 : ∀ g,((.slice x1 H.length y1) : Value).ownBlock = some g -> ¬ g = w.heap.size + 1 := fun g hg e => by
  subst e;exact absurd (owns_type hown1 hg hr1) (by decide)
 have hn2 : ∀ g,((.slice x2 P.length y2) : Value).ownBlock = some g -> ¬ g = w.heap.size + 1 := fun g hg e => by
  subst e;exact absurd (owns_type hown2 hg hr1) (by decide)
 have hn3 : ∀ g,((.slice x3 S.length y3) : Value).ownBlock = some g -> ¬ g = w.heap.size + 1 := fun g hg e => by
  subst e;exact absurd (owns_type hown3 hg hr1) (by decide)
 have hn4 : ∀ g,((.slice x4 D.length y4) : Value).ownBlock = some g -> ¬ g = w.heap.size + 1 := fun g hg e => by
  subst e;exact absurd (owns_type hown4 hg hr1) (by decide)
 have hE5 : Ext w W5 := Keeps.ext hE4 hk5 (fun k h => by omega)
 go_wp2_with (fail)
 (try simp only [Exit.inBlock,Exit.then])
 refine bodyPost_ret (results_cell_mid rfl _ _ (w.heap.size + 1) 0 [.string path,.bool ex,(.slice x1 H.length y1),(.slice x2 P.length y2),.int .i64 mi,.int .i64 ab,.int .i64 de,.int .i64 ti,.string pre,(.slice x3 S.length y3),(.slice x4 D.length y4),.int .i64 q0,.int .i64 q1,.int .i64 q2,.int .i64 q3,.int .i64 q4,.int .i64 q5,.int .i64 q6,.int .i64 rate] dd rfl hrs hd1 hd2 Tryz.ruleSize) rfl ?_;exact ⟨(⟨path,ex,(.slice x1 H.length y1),H,(.slice x2 P.length y2),P,mi,ab,de,ti,pre,(.slice x3 S.length y3),S,(.slice x4 D.length y4),D,q0,q1,q2,q3,q4,q5,q6,rate⟩ : RuleD),rfl,⟨_,_,_,_,rfl⟩,⟨owns_keeps hown1 hk5 hn1,owns_keeps hown2 hk5 hn2,owns_keeps hown3 hk5 hn3,owns_keeps hown4 hk5 hn4⟩,hE5⟩
open Go.Sort
def lexLt (lt : Int -> Int -> Bool) (x y : Int) : Bool := lt x y || (!lt y x && decide (x < y))
theorem lexLt_true {lt : Int -> Int -> Bool} {x y : Int} : lexLt lt x y = true ↔ lt x y = true \/ (lt y x = false /\ x < y) := by simp [lexLt]
theorem lexLt_false {lt : Int -> Int -> Bool} {x y : Int} : lexLt lt x y = false ↔ lt x y = false /\ (lt y x = true \/ ¬ x < y) := by
 unfold lexLt;cases lt x y <;> cases lt y x <;> simp
theorem swo_ncases {lt : Int -> Int -> Bool} (h : SWO lt) {x y z : Int} (hxz : lt x z = true) : lt x y = true \/ lt y z = true := by
 cases h1 : lt x y with
 | true => exact .inl rfl
 | false =>
  cases h2 : lt y z with
  | true => exact .inr rfl
  | false => rw [h.ntrans _ _ _ h1 h2] at hxz; cases hxz
theorem lex_swo {lt : Int -> Int -> Bool} (h : SWO lt) : SWO (lexLt lt) where
 irrefl x := lexLt_false.2 ⟨h.irrefl x,.inr (by omega)⟩
 trans x y z hxy hyz := by
  rw [lexLt_true] at *;rcases hxy with h1 | ⟨h1,l1⟩ <;> rcases hyz with h2 | ⟨h2,l2⟩
  ·exact .inl (h.trans _ _ _ h1 h2)
  ·rcases swo_ncases h (y := z) h1 with h3 | h3
   ·exact .inl h3
   ·rw [h2] at h3; cases h3
  ·rcases swo_ncases h (y := x) h2 with h3 | h3
   ·rw [h1] at h3; cases h3
   ·exact .inl h3
  ·exact .inr ⟨h.ntrans _ _ _ h2 h1,by omega⟩
 ntrans x y z hxy hyz := by
  rw [lexLt_false] at *;obtain ⟨h1,k1⟩ := hxy;obtain ⟨h2,k2⟩ := hyz;refine ⟨h.ntrans _ _ _ h1 h2, ?_⟩;rcases k1 with k1 | k1
  ·rcases swo_ncases h (y := z) k1 with h3 | h3
   ·rw [h2] at h3; cases h3
   ·exact .inl h3
  ·rcases k2 with k2 | k2
   ·rcases swo_ncases h (y := x) k2 with h3 | h3
    ·exact .inl h3
    ·rw [h1] at h3; cases h3
   ·exact .inr (by omega)
theorem lex_total {lt : Int -> Int -> Bool} {x y : Int} (h1 : lexLt lt x y = false) (h2 : lexLt lt y x = false) : x = y := by
 rw [lexLt_false] at *;obtain ⟨a1,b1⟩ := h1;obtain ⟨a2,b2⟩ := h2;rw [a2] at b1;rw [a1] at b2;simp at b1 b2;omega
theorem insInner_keep (lt : Int -> Int -> Bool) (a : Nat) : ∀ (j : Nat) (d : Array Int),j < d.size -> (insInner lt a j d).size = d.size /\ (∀ q,j < q -> (insInner lt a j d)[q]! = d[q]!) /\ ∀ p,p <= j -> ∃ r,r <= j /\ (insInner lt a j d)[p]! = d[r]! := by
 intro j
 induction j with
 | zero => intro d _; exact ⟨rfl,fun _ _ => rfl,fun p hp => ⟨p,hp,rfl⟩⟩
 | succ j ih =>
  intro d hj;unfold insInner;split
  ·have hs : (swp d (j + 1) j).size = d.size := swp_size _ _ _;obtain ⟨i1,i2,i3⟩ := ih (swp d (j + 1) j) (by omega);have g := swp_get d hj (show j < d.size by omega);refine ⟨by rw [i1,hs], ?_, ?_⟩
   ·intro q hq;rw [i2 q (by omega),g];simp [show q ≠ j + 1 by omega,show q ≠ j by omega]
   ·intro p hp;by_cases hpj : p <= j
    ·obtain ⟨r,hr,e⟩ := i3 p hpj;by_cases hrj : r = j
     ·refine ⟨j + 1,by omega, ?_⟩;rw [e,g,hrj];simp
     ·refine ⟨r,by omega, ?_⟩;rw [e,g];simp [hrj,show r ≠ j + 1 by omega]
    ·obtain rfl : p = j + 1 := (by omega);refine ⟨j,by omega, ?_⟩;rw [i2 (j + 1) (by omega),g];simp
  ·exact ⟨rfl,fun _ _ => rfl,fun p hp => ⟨p,hp,rfl⟩⟩
theorem insInner_lex (lt : Int -> Int -> Bool) (a : Nat) : ∀ (j : Nat) (d : Array Int),j < d.size -> (∀ p,p < j -> d[p]! < d[j]!) -> insInner lt a j d = insInner (lexLt lt) a j d := by
 intro j
 induction j with
 | zero => intro d _ _; rfl
 | succ j ih =>
  intro d hj hd;have g := swp_get d hj (show j < d.size by omega)
  have hc : lexLt lt d[j + 1]! d[j]! = lt d[j + 1]! d[j]! := by
   have := hd j (by omega);unfold lexLt;have h2 : decide (d[j + 1]! < d[j]!) = false := (by simp; omega);rw [h2];simp
  unfold insInner;rw [hc];split
  ·refine ih _ (by rw [swp_size]; omega) ?_;intro p hp;rw [g,g];have := hd p (by omega);simp [show p ≠ j by omega,show p ≠ j + 1 by omega];exact this
  ·rfl
theorem insOuter_lex (lt : Int -> Int -> Bool) (a b : Nat) : ∀ (n i : Nat) (d : Array Int),b - i = n -> b <= d.size -> (∀ p q,p < q -> i <= q -> q < b -> d[p]! < d[q]!) -> insOuter lt a b i d = insOuter (lexLt lt) a b i d := by
 intro n
 induction n with
 | zero =>
  intro i d hn _ _
  rw [insOuter,if_neg (by omega),insOuter,if_neg (by omega)]
 | succ n ih =>
  intro i d hn hb hd;have hib : i < b := by omega
  have hin := insInner_lex lt a i d (by omega) (fun p hp => hd p i hp (Nat.le_refl _) hib);rw [insOuter,if_pos hib]
  conv => rhs; rw [insOuter,if_pos hib]
  rw [hin];obtain ⟨k1,k2,k3⟩ := insInner_keep (lexLt lt) a i d (by omega);refine ih (i + 1) _ (by omega) (by omega) ?_;intro p q hpq hq hqb;rw [k2 q (by omega)];by_cases hp : p <= i
  ·obtain ⟨r,hr,e⟩ := k3 p hp;rw [e];exact hd r q (by omega) (by omega) hqb
  ·rw [k2 p (by omega)];exact hd p q hpq (by omega) hqb
def upTo (n : Nat) : List Int := (List.range n).map fun i : Nat => (i : Int)
theorem upTo_len (n : Nat) : (upTo n).length = n := by simp [upTo]
theorem upTo_get (n i : Nat) (h : i < n) : (upTo n).toArray[i]! = (i : Int) := by
 simp [upTo,h]
theorem upTo_nodup (n : Nat) : (upTo n).Nodup := by
 unfold upTo;rw [List.nodup_iff_pairwise_ne,List.pairwise_map];exact List.nodup_range.imp fun h e => h (by omega)
def rowL (lt : Int -> Int -> Bool) (n : Nat) : List Int := (insertionSort lt (upTo n).toArray 0 n).toList
theorem rowL_lex (lt : Int -> Int -> Bool) (n : Nat) : rowL lt n = (insertionSort (lexLt lt) (upTo n).toArray 0 n).toList := by
 unfold rowL insertionSort;rw [insOuter_lex lt 0 n _ 1 _ rfl (by simp [upTo]) ?_];intro p q hpq _ hq;rw [upTo_get n p (by omega),upTo_get n q hq];omega
theorem rowL_spec {lt : Int -> Int -> Bool} (h : SWO lt) (n : Nat) : (rowL lt n).Perm (upTo n) /\ (rowL lt n).Pairwise (fun x y => lexLt lt x y = true) := by
 have hz : (upTo n).toArray.size = n := by simp [upTo]
 obtain ⟨⟨p1,-,p3⟩,hs⟩ := insertionSort_holds (lt := lexLt lt) (lex_swo h) (upTo n).toArray 0 n (Nat.zero_le _) (by omega)
 have hp : (rowL lt n).Perm (upTo n) := by
  rw [rowL_lex];rw [hz] at p1;have ex : ∀ d : Array Int,d.size = n -> d.extract 0 n = d := fun d hd => by subst hd; exact Array.extract_size
  have e1 := ex _ p1;have e2 := ex _ hz;rw [e1,e2] at p3;simpa using p3
 refine ⟨hp, ?_⟩;have hnd : (rowL lt n).Nodup := hp.nodup_iff.2 (upTo_nodup n);have hl : (rowL lt n).length = n := by rw [hp.length_eq,upTo_len]
 rw [List.pairwise_iff_getElem];intro i j hi hj hij
 cases hlt : lexLt lt (rowL lt n)[i] (rowL lt n)[j] with
 | true => rfl
 | false =>
  exfalso;have h2 := hs i j (Nat.zero_le _) hij (by omega)
  have e : ∀ k (hk : k < (rowL lt n).length),(insertionSort (lexLt lt) (upTo n).toArray 0 n)[k]! = (rowL lt n)[k] := by
   intro k hk;have hk2 : k < (insertionSort (lexLt lt) (upTo n).toArray 0 n).size := (by rw [p1,hz]; omega);rw [getElem!_pos _ k hk2];simp only [rowL_lex,Array.getElem_toList]
  rw [e i hi,e j hj] at h2;have := lex_total hlt h2
  exact absurd this (fun e => by
   have := (List.nodup_iff_pairwise_ne.1 hnd);rw [List.pairwise_iff_getElem] at this
   exact this i j hi hj hij e)
abbrev Key := Int × Int × Int
theorem cmp3_neg (a b : Key) : cmp3 a b < 0 ↔ b.1 < a.1 \/ (a.1 = b.1 /\ (b.2.1 < a.2.1 \/ (a.2.1 = b.2.1 /\ b.2.2 < a.2.2))) := by
 unfold cmp3;split
 ·omega
 split
 ·omega
 split
 ·omega
 split
 ·omega
 split
 ·omega
 split <;> omega
def cfK (ks : List Key) (a b : Int) : Int := cmp3 (ks.getD a.toNat (0,0,0)) (ks.getD b.toNat (0,0,0))
theorem cfK_swo (ks : List Key) : SWO (Go.Proofs.ltOf (cfK ks)) where
 irrefl x := by
  unfold Go.Proofs.ltOf cfK;rw [decide_eq_false_iff_not,cmp3_neg];omega
 trans x y z := by
  unfold Go.Proofs.ltOf cfK;rw [decide_eq_true_iff,decide_eq_true_iff,decide_eq_true_iff,cmp3_neg,cmp3_neg,cmp3_neg];omega
 ntrans x y z := by
  unfold Go.Proofs.ltOf cfK;rw [decide_eq_false_iff_not,decide_eq_false_iff_not,decide_eq_false_iff_not,cmp3_neg,cmp3_neg,cmp3_neg];omega
abbrev Rules := Sl encR 19
def RuleD.core (r : RuleD) : RuleD := { r with hv := .slice none 0 0,pv := .slice none 0 0,sv := .slice none 0 0,dv := .slice none 0 0 }
theorem Same.core {r r' : RuleD} (h : Same r r') : r'.core = r.core := by
 obtain ⟨a,b,c,d,rfl⟩ := h;rfl
def TabAt (B : Nat) (w : World) (b : Nat) (Rs : List RuleD) (I : List Int) : Prop :=
 B <= b /\ (∃ vr vi,w.heap[b]? = some (.cells #[vr,vi] 99 (0,0)) /\ w.ownsRow B 69 19 vr Rs.length (Rs.flatMap encR) /\ w.ownsRow B 3 1 vi I.length (I.flatMap encI)) /\
 ∀ r ∈ Rs,RuleOwn B w r
theorem TabAt.ext {B b : Nat} {w w' : World} {Rs : List RuleD} {I : List Int} (h : TabAt B w b Rs I) (e : Ext w w') : TabAt B w' b Rs I := by
 obtain ⟨h1,⟨vr,vi,h2,h3,h4⟩,h5⟩ := h;exact ⟨h1,⟨vr,vi,(e.block b (zg h2)).trans h2,owns_ext h3 e,owns_ext h4 e⟩,fun r hr => (h5 r hr).ext e⟩
def nerr (R : List RuleD) (rates : Int) : Int := if 20 < R.length then 2 else ((R.map (rchk · rates)).find? (· != 0)).getD 0
theorem encR_one (r : RuleD) {B : Nat} {w : World} (h : RuleOwn B w r) : ∀ u ∈ encR r,u.oneCell' = true := by
 obtain ⟨path,ex,hv,H,pv,P,mi,ab,de,ti,pre,sv,S,dv,D,q0,q1,q2,q3,q4,q5,q6,rate⟩ := r;obtain ⟨a,c,h1⟩ := owns_shape h.1;obtain ⟨a2,c2,h2⟩ := owns_shape h.2.1;obtain ⟨a3,c3,h3⟩ := owns_shape h.2.2.1;obtain ⟨a4,c4,h4⟩ := owns_shape h.2.2.2;simp only at h1 h2 h3 h4;subst h1 h2 h3 h4;intro u hu;simp [encR] at hu;rcases hu with rfl | rfl | rfl | rfl | rfl | rfl | rfl | rfl | rfl | rfl | rfl | rfl | rfl | rfl | rfl | rfl | rfl | rfl | rfl <;> rfl
theorem encR_one' (r : RuleD) {w : World} (h : RuleOk w r) : ∀ u ∈ encR r,u.oneCell' = true := by
 obtain ⟨path,ex,hv,H,pv,P,mi,ab,de,ti,pre,sv,S,dv,D,q0,q1,q2,q3,q4,q5,q6,rate⟩ := r;obtain ⟨-,a,c,h1⟩ := h.1.shape;obtain ⟨-,a2,c2,h2⟩ := h.2.1.shape;obtain ⟨-,a3,c3,h3⟩ := h.2.2.1.shape;obtain ⟨-,a4,c4,h4⟩ := h.2.2.2.shape;simp only at h1 h2 h3 h4;subst h1 h2 h3 h4;intro u hu;simp [encR] at hu;rcases hu with rfl | rfl | rfl | rfl | rfl | rfl | rfl | rfl | rfl | rfl | rfl | rfl | rfl | rfl | rfl | rfl | rfl | rfl | rfl <;> rfl
theorem rules_at {w : World} {a : Option Addr} {n cap : Nat} {xs : List RuleD} (h : Rules w (.slice a n cap) xs) (i : Nat) (hi : i < xs.length) :
  ∃ b off,a = some ⟨b,off,none⟩ /\ b < w.heap.size /\ ∀ j u,(encR xs[i])[j]? = some u -> w.cell? ⟨b,off + i * 19 + j,none⟩ = some u := by
 obtain ⟨_,a',cap',hv,_,hc⟩ := h;cases hv;exact hc i xs[i] (List.getElem?_eq_getElem hi)
theorem Tryz.infoR : (Tryz.prog.info? 69).map (fun i => (i.size,i.bytes,i.zero.map fun z => z.cells.size)) = some (19,232,some 19) := by kernel_rfl
theorem info_partsR : ∃ i z,Tryz.prog.info? 69 = some i /\ i.zero = some z /\ i.size = 19 /\ i.bytes = 232 /\ z.cells.size = 19 := by
 have h := Tryz.infoR
 revert h
 cases Tryz.prog.info? 69 with
 | none => intro h; cases h
 | some i =>
  intro h;simp only [Option.map_some,Option.some.injEq,Prod.mk.injEq] at h;obtain ⟨h1,h2,h3⟩ := h
  cases hz : i.zero with
  | none => rw [hz] at h3; cases h3
  | some z =>
   rw [hz] at h3;exact ⟨i,z,rfl,hz,h1,h2,by simpa using h3⟩
theorem rules_new1 (w : World) (r : RuleD) (T : TypeId) : Rules (w.alloc (.cells (encR r).toArray T)) (.slice (some ⟨w.heap.size,0,none⟩) 1 1) [r] := by
 have h := World.ownsRow_lit (base := 0) (e := T) (size := 19) w (encR r).toArray 1 (Nat.zero_le _) (by unfold maxLen; omega) rfl;refine Sl.of_own' encR_len (base := 0) (e := T) ?_;have e : ([r] : List RuleD).flatMap encR = (encR r).toArray.toList := by simp
 rw [e];exact h
theorem ints_new1 (w : World) (z : Int) (T : TypeId) : Ints (w.alloc (.cells #[.int .i64 z] T)) (.slice (some ⟨w.heap.size,0,none⟩) 1 1) [z] := by
 have h := World.ownsRow_lit (base := 0) (e := T) (size := 1) w #[.int .i64 z] 1 (Nat.zero_le _) (by unfold maxLen; omega) rfl;exact Sl.of_own' (enc := encI) (xs := [z]) (fun _ => rfl) (base := 0) (e := T) h
end Go.Proofs.YtoaiakhnnfbkdaaGreatDoor
