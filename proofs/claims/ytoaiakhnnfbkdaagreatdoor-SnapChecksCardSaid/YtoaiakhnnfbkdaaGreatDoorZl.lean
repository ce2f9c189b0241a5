import Derived.Test.YtoaiakhnnfbkdaaGreatDoorRtJ
import Derived.Test.YtoaiakhnnfbkdaaGreatDoorZm

/- Table.Find,Table.Len; ref08.New. -/
set_option maxRecDepth 100000
set_option maxHeartbeats 32000000
namespace Go.Proofs.YtoaiakhnnfbkdaaGreatDoor
open Go.ChangeShapes Go.WideShapes Go.ChangeAt Go.RowKit Go.Lib Go.Shelf
theorem rnew_any (R : List RuleD) (rates : Int) (v : Value) (w : World) (hs : Rules w v R) (hok : ∀ r ∈ R,RuleOk w r /\ RuleFit r) :
  Calls Tryz.prog 28 #[v,.int .i64 rates] w fun e w' => e = .returned (.int .i64 (nerr R rates)) /\ Ext w w' := by
 obtain ⟨hl,a,c,rfl⟩ := hs.shape;obtain ⟨dd,hd1,hd2⟩ := Tryz.ruleDesc;by_cases h20 : 20 < R.length
 ·have h20z : (20 : Int) < R.length := by omega
  have hn : nerr R rates = 2 := by unfold nerr; rw [if_pos h20]
  rw [hn];clear hs hok hn
  go_enter Tryz.func28,Tryz.ntmps28
  go_wp2;go_ret;exact ⟨rfl,zb⟩
 have h20z : ¬ (20 : Int) < R.length := by omega
 have HS := hide hs;have HOK := hide hok;have H20 := hide h20;clear hs hok
 go_enter Tryz.func28,Tryz.ntmps28
 go_wp2_with fail
 go_loopw [5] (fun i wr => ∃ k : Nat,k <= R.length /\ i = .int .i64 k /\ Ext w wr /\ ∀ x ∈ R.take k,rchk x rates = 0) (fun i _ => R.length - (intOf i).toNat)
 case atStart => exact ⟨0,by omega,rfl,zb,fun x hx => by simp at hx⟩
 case round =>
  obtain ⟨k,hk,rfl,hext,hall⟩ := hrel;have HAL := hide hall;clear hall;by_cases hlt : k < R.length
  ·obtain ⟨b,off,rfl,hbb,hc⟩ := rules_at HS.out k hlt;obtain ⟨r,hr⟩ : ∃ r,R[k] = r := ⟨_,rfl⟩;rw [hr] at hc;have hokr := HOK.out r (by rw [<- hr]; exact List.getElem_mem hlt);have hrg : wr.rangeAt b (off + k * 19) (encR r) := fun j v hv => (hext.cell (p := ⟨b,off + k * 19 + j,none⟩) hbb).trans (hc j v hv);have hcall := rrchk_any r rates wr (hokr.1.ext hext) hokr.2;have hne := nerr_at R rates k hlt H20.out HAL.out;rw [hr] at hne
   have hsn : rchk r rates = 0 -> ∀ x ∈ R.take (k + 1),rchk x rates = 0 := fun h0 x hx => by
    rw [take_snoc R k hlt] at hx;rcases List.mem_append.1 hx with hx | hx
    ·exact HAL.out x hx
    ·rw [List.mem_singleton.1 hx,hr]; exact h0
   obtain ⟨z,hz⟩ : ∃ z,rchk r rates = z := ⟨_,rfl⟩;rw [hz] at hcall hne hsn;have HCALL := hide hcall;have HNE := hide hne;have HSN := hide hsn;have HRG := hide hrg;have hltz : (k : Int) < R.length := (by omega);clear hcall hne hsn hrg hc hokr hz hr
   go_upto_region 6 with (fail)
   refine wp_region_lit ?_
   iterate 3 (refine wpList_plain rfl fun K hK => ?_; go_simp; refine hK _ _ ?_)
   refine wpList_load_mid rfl 69 (.tmp 18) rfl b (off + k * 19) rfl (encR r) dd HRG.out hd1 hd2 Tryz.ruleSize ?_;by_cases h0 : z = 0
   ·subst h0;have HSN2 := hide (HSN.out rfl);clear HSN
    go_wp2_with fail
    refine HCALL.out.mono ?_;rintro e w9 ⟨rfl,E9⟩;go_wp2
    go_roundw
    case rel => exact ⟨k + 1,hlt,by go_num,Ext.trans hext E9,HSN2.out⟩
    case measure => simp [intOf] <;> omega
   ·have hb : (z != 0) = true := (by simp [h0]);have HNE := hide (HNE.out h0)
    go_wp2_with fail
    refine HCALL.out.mono ?_;rintro e w9 ⟨rfl,E9⟩;go_wp2;go_ret;exact ⟨ret_int HNE.out.symm,Ext.trans hext E9⟩
  ·obtain rfl : k = R.length := (by omega);have hz := nerr_all R rates H20.out (fun x hx => HAL.out x (by rw [List.take_length]; exact hx));have HZ := hide hz;clear hz;go_wp2;go_ret;exact ⟨ret_int HZ.out.symm,hext⟩
end Go.Proofs.YtoaiakhnnfbkdaaGreatDoor
