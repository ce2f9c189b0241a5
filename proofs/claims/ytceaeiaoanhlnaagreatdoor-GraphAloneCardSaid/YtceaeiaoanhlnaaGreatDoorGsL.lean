import Derived.Test.YtceaeiaoanhlnaaGreatDoorGrK
import Derived.Test.YtceaeiaoanhlnaaGreatDoorGkV
set_option maxRecDepth 100000
set_option maxHeartbeats 32000000
namespace Go.Proofs.YtceaeiaoanhlnaaGreatDoor
open Go.ChangeShapes Go.WideShapes Go.ChangeAt Go.RowKit Go.Lib Go.Shelf Go.Maps
theorem frame71 (x : Nat -> Value) : frameOf 71 x = #[x 0,x 1,x 2,x 3,x 4,x 5,x 6,x 7,x 8,x 9,x 10,x 11,x 12,x 13,x 14,x 15,x 16,x 17,x 18,x 19,x 20,x 21,x 22,x 23,x 24,x 25,x 26,x 27,x 28,x 29,x 30,x 31,x 32,x 33,x 34,x 35,x 36,x 37,x 38,x 39,x 40,x 41,x 42,x 43,x 44,x 45,x 46,x 47,x 48,x 49,x 50,x 51,x 52,x 53,x 54,x 55,x 56,x 57,x 58,x 59,x 60,x 61,x 62,x 63,x 64,x 65,x 66,x 67,x 68,x 69,x 70] := rfl
theorem alonel_any (L : List Int) (how n : Int) (v : Value) (w : World) (hm : MaxV w) (hs : Ints w v L) (hL : ∀ x ∈ L,I64 x) (hh : I64 how) (hn : I64 n) :
  Calls Tryz.prog 5 #[v,.int .i64 how,.int .i64 n] w fun e w' => e = .returned (.bool true) /\ Ext w w' := by
 obtain ⟨cd,hcd1,hcd2⟩ := Tryz.confDesc;have HM := hide hm;have HPO := hide (fun X => pathof_any n X hn);have HME := hide (mesh_any L how v w hs hL hh);clear hm hs hL
 go_enter Tryz.func5,Tryz.ntmps5
 go_wp2_with fail
 refine HME.out.mono ?_;rintro e W1 ⟨c,c0,rfl,hc0,hc,ho,E1⟩;obtain ⟨g1,g2,-⟩ := good_conf hc0;have hgc : chkC c = 0 /\ ConfFit c := by subst hc; exact ⟨meshC_right _ g2,meshC_fit _ (chk_R g2) g1⟩
 clear hc0 hc g1 g2 HME;have hth := OwnC.there (Z := #[.slice none 0 0,.slice none 0 0,.slice none 0 0,.slice none 0 0,.int .i64 0,.int .i64 0,.int .i64 0,.int .i64 0,.int .i64 0,.int .i64 0,.int .i64 0,.int .i64 0,.int .i64 0,.int .i64 0,.int .i64 0,.int .i64 0,.int .i64 0,.int .i64 0,.int .i64 0,.int .i64 0]) rfl W1
 go_upto_region 2 with (refine wpList_store_mid rfl 30 (.tmp 7) (.tmp 17) rfl W1.heap.size 0 (encC c).toArray rfl rfl hth Tryz.confSize (all_oneCell_toArray (encC_oneG ho)) ?_)
 obtain ⟨h2,E2⟩ := OwnC.store (Z := #[.slice none 0 0,.slice none 0 0,.slice none 0 0,.slice none 0 0,.int .i64 0,.int .i64 0,.int .i64 0,.int .i64 0,.int .i64 0,.int .i64 0,.int .i64 0,.int .i64 0,.int .i64 0,.int .i64 0,.int .i64 0,.int .i64 0,.int .i64 0,.int .i64 0,.int .i64 0,.int .i64 0]) rfl ho;show Code.wp _ _ _ _ ((W1.alloc (.cells #[.slice none 0 0,.slice none 0 0,.slice none 0 0,.slice none 0 0,.int .i64 0,.int .i64 0,.int .i64 0,.int .i64 0,.int .i64 0,.int .i64 0,.int .i64 0,.int .i64 0,.int .i64 0,.int .i64 0,.int .i64 0,.int .i64 0,.int .i64 0,.int .i64 0,.int .i64 0,.int .i64 0] 30)).setCells W1.heap.size 0 (encC c));generalize (W1.alloc (.cells #[.slice none 0 0,.slice none 0 0,.slice none 0 0,.slice none 0 0,.int .i64 0,.int .i64 0,.int .i64 0,.int .i64 0,.int .i64 0,.int .i64 0,.int .i64 0,.int .i64 0,.int .i64 0,.int .i64 0,.int .i64 0,.int .i64 0,.int .i64 0,.int .i64 0,.int .i64 0,.int .i64 0] 30)).setCells W1.heap.size 0 (encC c) = W2 at h2 E2 ⊢;obtain ⟨b1,hb1⟩ : ∃ b,W1.heap.size = b := ⟨_,rfl⟩;rw [hb1] at h2 ⊢;have HX2 := hide (E1.trans E2);have HG := hide (h2.gc (HM.out.ext HX2.out) hgc.1 hgc.2);have HBX := hide (fun X (hX : Ext W2 X) => h2.box.ext hX);have HRL := hide (chk_R hgc.1);have HPZ := hide (fun (r : RuleD) (hr : r ∈ c.R) => (chk_paths hgc.1 hgc.2 r hr).1);have hru := h2.own.ok.2.2.2.1;obtain ⟨_,ra,rcc,hrv⟩ := hru.shape;rw [hrv] at hru
 have HRU := hide hru;have HCR := hide (fun X (hX : Ext W2 X) => (by have := (h2.box.ext hX).cell 2 _ (show (encC c)[2]? = some c.rv from rfl); rw [hrv] at this; exact this : X.cell? ⟨b1,2,none⟩ = some (.slice ra c.R.length rcc)));clear h2 E1 E2 ho hth hgc hb1 hru hrv
 go_wp2_with fail
 refine (HPO.out W2).mono ?_;rintro e X1 ⟨s0,rfl,hs0,EX⟩
 have hsz0 : SzB s0 := by
  have h1 := bl_pathA s0 _ hs0;have h2 := pathA_size (arN n 1000000);rw [h1];unfold SzB;omega
 go_upto_region 3 with (fail)
 have hxa : Ext X1 (X1.alloc (.cells #[.string s0,.string ⟨#[47]⟩] 9)) := za;have hli : (X1.alloc (.cells #[.string s0,.string ⟨#[47]⟩] 9)).ownsRow X1.heap.size 9 1 (.slice (some ⟨X1.heap.size,0,none⟩) 2 2) 2 [.string s0,.string ⟨#[47]⟩] := World.ownsRow_lit (base := X1.heap.size) (e := 9) (size := 1) X1 #[.string s0,.string ⟨#[47]⟩] 2 (Nat.le_refl _) (by unfold maxLen; omega) rfl;show Code.wp _ _ _ _ (X1.alloc (.cells #[.string s0,.string ⟨#[47]⟩] 9));generalize X1.alloc (.cells #[.string s0,.string ⟨#[47]⟩] 9) = W3 at hxa hli ⊢;have HWO := hide (show WO X1 W3 (.slice (some ⟨X1.heap.size,0,none⟩) 2 2) [s0,⟨#[47]⟩] from ⟨hli,hxa⟩);have HX1 := hide EX;have HSZ0 := hide hsz0;clear hxa hli EX hs0 hsz0
 go_wp2_with fail
 go_loopw [8,9] (fun v8 v9 wr => ∃ i : Nat,i <= c.R.length /\ v9 = .int .i64 i /\ Hid (WO X1 wr v8 ([s0,⟨#[47]⟩] ++ (c.R.take i).map RuleD.path))) (fun _ i _ => c.R.length - (intOf i).toNat)
 case atStart => exact ⟨0,Nat.zero_le _,rfl,hide HWO.out⟩
 case round =>
  obtain ⟨i,hi,rfl,hwo⟩ := hrel;have HWI := hide hwo.out;obtain ⟨pa,pc,rfl⟩ := owns_shape HWI.out.row;have z2 := HCR.out wr (HX1.out.trans HWI.out.ext);clear hwo;by_cases hlt : i < c.R.length
  ·have hltz : (i : Int) < c.R.length := (by omega);have hwi : IntKind.i64.wrap ((i : Int) + 1) = ((i + 1 : Nat) : Int) := (by have := HRL.out; rw [IntKind.wrap_i64]; omega);obtain ⟨rb,ro,rfl,-,hcell⟩ := rule_row HRU.out i hlt;have hpc := cell_ext (HX1.out.trans HWI.out.ext) (hcell 0 (.string c.R[i].path) rfl);rw [Nat.add_zero] at hpc
   have hnx : [s0,⟨#[47]⟩] ++ (c.R.take (i + 1)).map RuleD.path = ([s0,⟨#[47]⟩] ++ (c.R.take i).map RuleD.path) ++ [c.R[i].path] := by
    rw [take_snoc c.R i hlt,List.map_append,List.append_assoc];rfl
   have hpl : ([s0,(⟨#[47]⟩ : ByteArray)] ++ (c.R.take i).map RuleD.path).length <= 100 := by
    have h1 := List.length_take_le i c.R;have h2 := HRL.out;rw [List.length_append,List.length_map];simp;omega
   generalize [s0,(⟨#[47]⟩ : ByteArray)] ++ (c.R.take i).map RuleD.path = PP at hnx hpl HWI ⊢;generalize c.R[i].path = y at hpc hnx;have HNX := hide hnx;clear hnx hcell
   go_upto_region 6 with (fail)
   refine wp_region_lit ?_;refine wpList_plain rfl fun Kq hKq => ?_;go_simp;refine hKq _ _ ?_;clear hKq Kq;refine wpList_plain rfl fun Kq hKq => ?_;go_simp;refine hKq _ _ ?_;clear hKq Kq;refine wpList_plain rfl fun Kq hKq => ?_;go_simp;refine hKq _ _ ?_;clear hKq Kq;refine wpList_plain rfl fun Kq hKq => ?_;go_simp;refine hKq _ _ ?_;clear hKq Kq;refine wpList_plain rfl fun Kq hKq => ?_;go_simp;refine hKq _ _ ?_;clear hKq Kq;refine wpList_plain rfl fun Kq hKq => ?_;go_simp;refine hKq _ _ ?_;clear hKq Kq;refine wpList_plain rfl fun Kq hKq => ?_;go_simp;refine hKq _ _ ?_;clear hKq Kq;refine wpList_plain rfl fun Kq hKq => ?_;go_simp;refine hKq _ _ ?_;clear hKq Kq;refine wpList_plain rfl fun Kq hKq => ?_;go_simp;refine hKq _ _ ?_;clear hKq Kq;clear hpc z2;refine wpList_app1 rfl (.tmp 28) (.tmp 36) _ 9 rfl Tryz.underlying42 gInfoT (by decide) (by decide) X1.heap.size _ PP.length (PP.flatMap encS) rfl HWI.out.row [.string y] rfl (by simp [Value.oneCell']) rfl (by omega) HWI.out.ext.size ?_;intro v' w3 ho3 hk3 hp3;have HWN := hide (HWI.out.add ho3 hk3);clear ho3 hk3 hp3;refine wpList_plain rfl fun Kq hKq => ?_;go_simp;refine hKq _ _ ?_;clear hKq Kq;refine wpList_nil ?_;go_wp2
   go_roundw
   case rel => exact ⟨i + 1,hlt,by go_num,hide (by rw [HNX.out]; exact HWN.out)⟩
   case measure => simp [intOf] <;> omega
  ·obtain rfl : i = c.R.length := (by omega);have hltz : ¬ (c.R.length : Int) < c.R.length := (by omega);have hwo := HWI.out;rw [List.take_length] at hwo
   have hpz : ∀ p ∈ [s0,(⟨#[47]⟩ : ByteArray)] ++ c.R.map RuleD.path,SzB p := fun p hp => by
    rcases List.mem_append.1 hp with hp | hp
    ·rcases List.mem_cons.1 hp with rfl | hp
     ·exact HSZ0.out
     ·rw [List.mem_singleton.1 hp];unfold SzB;decide
    ·obtain ⟨r,hr,rfl⟩ := List.mem_map.1 hp;exact HPZ.out r hr
   have hpl : ([s0,(⟨#[47]⟩ : ByteArray)] ++ c.R.map RuleD.path).length <= 100 := by
    have h2 := HRL.out;rw [List.length_append,List.length_map];simp;omega
   have hle : ([s0,(⟨#[47]⟩ : ByteArray)] ++ (c.R.take c.R.length).map RuleD.path).length = ([s0,(⟨#[47]⟩ : ByteArray)] ++ c.R.map RuleD.path).length := (by rw [List.take_length]);rw [hle];clear hle;generalize [s0,(⟨#[47]⟩ : ByteArray)] ++ c.R.map RuleD.path = PP at hwo hpz hpl ⊢;have HPP := hide hpz;have HPL := hide hpl;have HRO := hide hwo.row;have HX3 := hide (HX2.out.trans (HX1.out.trans hwo.ext));have HE23 := hide (HX1.out.trans hwo.ext);obtain ⟨W3,rfl⟩ : ∃ x : World,x = wr := ⟨_,rfl⟩;clear hwo hpz hpl HWI HWO
   go_wp2_with fail
   clear hltz z2
   go_loopw [10] (fun v10 wr => ∃ i : Nat,i <= PP.length /\ v10 = .int .i64 i /\ Ext W3 wr) (fun i _ => PP.length - (intOf i).toNat)
   case atStart => exact ⟨0,Nat.zero_le _,rfl,zb⟩
   case round =>
    obtain ⟨i,hi,rfl,hext⟩ := hrel;have HE := hide hext;clear hext;by_cases hlt : i < PP.length
    ·have hltz : (i : Int) < PP.length := (by omega);have hwi : IntKind.i64.wrap ((i : Int) + 1) = ((i + 1 : Nat) : Int) := (by have := HPL.out; rw [IntKind.wrap_i64]; omega);obtain ⟨gp,cap,hgv,-⟩ := owns_block HRO.out (by omega);injection hgv with h1 h2 h3;subst h1;obtain ⟨bq,oq,eq,-,hyc⟩ := strs_row (Sl.of_own' (enc := encS) (fun _ => rfl) HRO.out : Strs W3 (.slice (some ⟨gp,0,none⟩) PP.length pc) PP) i hlt;cases eq;rw [Nat.zero_add] at hyc;have hsz := HPP.out PP[i] (List.getElem_mem hlt);generalize PP[i] = p at hyc hsz;have ha1 := fun X (hX : Ext W3 X) => alone_any c p X (HG.out.ext (HE23.out.trans hX)) hsz;have ha2 := fun X (hX : Ext W3 X) => ralone_any c p X (HG.out.ext (HE23.out.trans hX)) hsz;generalize (aloneC c p).1 = tk at ha1 ha2;generalize (aloneC c p).2 = sb at ha1 ha2;have HA1 := hide ha1;have HA2 := hide ha2;have HPC := hide (fun X (hX : Ext W3 X) => cell_ext hX hyc);have HBX3 := hide HBX.out;clear ha1 ha2 hyc hsz h2 h3 HBX;have HBX := hide (fun X (hX : Ext W3 X) => HBX3.out X (HE23.out.trans hX));clear HBX3
     go_upto_region 10 with (fail)
     refine wp_region_ro 71 [11,12,44,45,46,47,48,49,50,51,52] (fun w' => Ext W3 w' /\ Ext wr w') (fun (t : Nat) (wI : World) (v : Value) => match t with | 11 => v = (.int .i64 tk) | 12 => v = (.bool sb) | 44 => v = (.tuple #[.int .i64 tk,.bool sb]) | 45 => v = (.agg (encC c).toArray) | 46 => v = (.slice (some ⟨gp,0,none⟩) PP.length pc) | 47 => v = (.int .i64 (i : Int)) | 48 => v = (.pointer (some ⟨gp,i,none⟩)) | 49 => v = (.string p) | 50 => v = (.tuple #[.int .i64 tk,.bool sb]) | 51 => v = (.int .i64 tk) | 52 => v = (.bool sb) | _ => True) (by kernel_rfl) rfl (by kernel_rfl) (by kernel_rfl) (by kernel_rfl) ?_ ?_ ?_ ?_ ?_
     ·intro t w' w'' v hR hv;exact hv
     ·intro w' w'' h e;exact ⟨h.1.trans e,h.2.trans e⟩
     ·exact ⟨HE.out.drew,zb.drew⟩
     ·intro i o ho X w' hph hI hF K hK;have hin : i < 11 := (zg ho);rcases zo hin with rfl | rfl | rfl | rfl | rfl | rfl | rfl | rfl | rfl | rfl | rfl
      all_goals first | (exact absurd hmi (by decide)) | (obtain rfl := Option.some.inj ho; unfold wpOp; simp only [ho]; rw [if_pos (by rfl)]; left; rw [frame71])
      ·have e7 : X 7 = (.pointer (some ⟨b1,0,none⟩)) := hF 7 (by kernel_rfl);have hx : Ext W3 w' := hph.1;refine wp_load_mid 30 (.tmp 7) rfl b1 0 e7 (encC c) cd (BoxC.range (HBX.out w' hx)) hcd1 hcd2 Tryz.confSize (metK (hK.out (.agg (encC c).toArray) _ zb (fun d hd => by cases hd; exact rfl)) ?_);simp [frame71,Act.put, *]
      ·have e8 : X 8 = (.slice (some ⟨gp,0,none⟩) PP.length pc) := hF 8 (by kernel_rfl);go_simp;refine zm1 hK ((.slice (some ⟨gp,0,none⟩) PP.length pc)) ?_;simp [frame71,Act.put, *]
      ·have e10 : X 10 = (.int .i64 (i : Int)) := hF 10 (by kernel_rfl);go_simp;refine zm1 hK ((.int .i64 (i : Int))) ?_;simp [frame71,Act.put, *]
      ·have e46 : X 46 = _ := zk1 (hI 46);have e47 : X 47 = _ := zk1 (hI 47);go_simp;refine zm1 hK ((.pointer (some ⟨gp,i,none⟩))) ?_;simp [frame71,Act.put, *]
      ·have e48 : X 48 = _ := zk1 (hI 48);have hx : Ext W3 w' := hph.1;have q1 := HPC.out w' hx;go_simp;refine zm1 hK ((.string p)) ?_;simp [frame71,Act.put, *]
      ·have e45 : X 45 = _ := zk1 (hI 45);have e49 : X 49 = _ := zk1 (hI 49);have hx : Ext W3 w' := hph.1;go_simp;refine (HA1.out w' hx).mono ?_;rintro e w9 ⟨rfl,E9⟩;refine metK (hK.out (.tuple #[.int .i64 tk,.bool sb]) w9 E9 (fun d hd => by cases hd; exact rfl)) ?_;simp [frame71,Act.put, *]
      ·have e50 : X 50 = _ := zk1 (hI 50);go_simp;refine zm1 hK ((.tuple #[.int .i64 tk,.bool sb])) ?_;simp [frame71,Act.put, *]
      ·have e44 : X 44 = _ := zk1 (hI 44);go_simp;refine zm1 hK ((.int .i64 tk)) ?_;simp [frame71,Act.put, *]
      ·have e44 : X 44 = _ := zk1 (hI 44);go_simp;refine zm1 hK ((.bool sb)) ?_;simp [frame71,Act.put, *]
      ·have e51 : X 51 = _ := zk1 (hI 51);go_simp;refine zm1 hK ((.int .i64 tk)) ?_;simp [frame71,Act.put, *]
      ·have e52 : X 52 = _ := zk1 (hI 52);go_simp;refine zm1 hK ((.bool sb)) ?_;simp [frame71,Act.put, *]
     ·intro X w' hph hI;have e11 : X 11 = _ := zk1 (hI 11);have e12 : X 12 = _ := zk1 (hI 12);have e44 : X 44 = _ := zk1 (hI 44);have e45 : X 45 = _ := zk1 (hI 45);have e46 : X 46 = _ := zk1 (hI 46);have e47 : X 47 = _ := zk1 (hI 47);have e48 : X 48 = _ := zk1 (hI 48);have e49 : X 49 = _ := zk1 (hI 49);have e50 : X 50 = _ := zk1 (hI 50);have e51 : X 51 = _ := zk1 (hI 51);have e52 : X 52 = _ := zk1 (hI 52);clear hI;simp only [overF,List.foldl_cons,List.foldl_nil,List.setIfInBounds_toArray,List.set_cons_succ,List.set_cons_zero,e11,e12,e44,e45,e46,e47,e48,e49,e50,e51,e52];obtain ⟨hx1,hx2⟩ := hph;have HE6 := hide hx1;clear hx1 hx2 e44 e45 e46 e47 e48 e49 e50 e51 e52;generalize w' = W6 at *
      go_upto_region 11 with (fail)
      refine wp_region_ro 71 [13,14,53,54,55,56,57,58,59,60,61] (fun w' => Ext W3 w' /\ Ext W6 w') (fun (t : Nat) (wI : World) (v : Value) => match t with | 13 => v = (.int .i64 tk) | 14 => v = (.bool sb) | 53 => v = (.tuple #[.int .i64 tk,.bool sb]) | 54 => v = (.agg (encC c).toArray) | 55 => v = (.slice (some ⟨gp,0,none⟩) PP.length pc) | 56 => v = (.int .i64 (i : Int)) | 57 => v = (.pointer (some ⟨gp,i,none⟩)) | 58 => v = (.string p) | 59 => v = (.tuple #[.int .i64 tk,.bool sb]) | 60 => v = (.int .i64 tk) | 61 => v = (.bool sb) | _ => True) (by kernel_rfl) rfl (by kernel_rfl) (by kernel_rfl) (by kernel_rfl) ?_ ?_ ?_ ?_ ?_
      ·intro t w' w'' v hR hv;exact hv
      ·intro w' w'' h e;exact ⟨h.1.trans e,h.2.trans e⟩
      ·exact ⟨HE6.out.drew,zb.drew⟩
      ·intro i o ho X w' hph hI hF K hK;have hin : i < 11 := (zg ho);rcases zo hin with rfl | rfl | rfl | rfl | rfl | rfl | rfl | rfl | rfl | rfl | rfl
       all_goals first | (exact absurd hmi (by decide)) | (obtain rfl := Option.some.inj ho; unfold wpOp; simp only [ho]; rw [if_pos (by rfl)]; left; rw [frame71])
       ·have e7 : X 7 = (.pointer (some ⟨b1,0,none⟩)) := hF 7 (by kernel_rfl);have hx : Ext W3 w' := hph.1;refine wp_load_mid 30 (.tmp 7) rfl b1 0 e7 (encC c) cd (BoxC.range (HBX.out w' hx)) hcd1 hcd2 Tryz.confSize (metK (hK.out (.agg (encC c).toArray) _ zb (fun d hd => by cases hd; exact rfl)) ?_);simp [frame71,Act.put, *]
       ·have e8 : X 8 = (.slice (some ⟨gp,0,none⟩) PP.length pc) := hF 8 (by kernel_rfl);go_simp;refine zm1 hK ((.slice (some ⟨gp,0,none⟩) PP.length pc)) ?_;simp [frame71,Act.put, *]
       ·have e10 : X 10 = (.int .i64 (i : Int)) := hF 10 (by kernel_rfl);go_simp;refine zm1 hK ((.int .i64 (i : Int))) ?_;simp [frame71,Act.put, *]
       ·have e55 : X 55 = _ := zk1 (hI 55);have e56 : X 56 = _ := zk1 (hI 56);go_simp;refine zm1 hK ((.pointer (some ⟨gp,i,none⟩))) ?_;simp [frame71,Act.put, *]
       ·have e57 : X 57 = _ := zk1 (hI 57);have hx : Ext W3 w' := hph.1;have q1 := HPC.out w' hx;go_simp;refine zm1 hK ((.string p)) ?_;simp [frame71,Act.put, *]
       ·have e54 : X 54 = _ := zk1 (hI 54);have e58 : X 58 = _ := zk1 (hI 58);have hx : Ext W3 w' := hph.1;go_simp;refine (HA2.out w' hx).mono ?_;rintro e w9 ⟨rfl,E9⟩;refine metK (hK.out (.tuple #[.int .i64 tk,.bool sb]) w9 E9 (fun d hd => by cases hd; exact rfl)) ?_;simp [frame71,Act.put, *]
       ·have e59 : X 59 = _ := zk1 (hI 59);go_simp;refine zm1 hK ((.tuple #[.int .i64 tk,.bool sb])) ?_;simp [frame71,Act.put, *]
       ·have e53 : X 53 = _ := zk1 (hI 53);go_simp;refine zm1 hK ((.int .i64 tk)) ?_;simp [frame71,Act.put, *]
       ·have e53 : X 53 = _ := zk1 (hI 53);go_simp;refine zm1 hK ((.bool sb)) ?_;simp [frame71,Act.put, *]
       ·have e60 : X 60 = _ := zk1 (hI 60);go_simp;refine zm1 hK ((.int .i64 tk)) ?_;simp [frame71,Act.put, *]
       ·have e61 : X 61 = _ := zk1 (hI 61);go_simp;refine zm1 hK ((.bool sb)) ?_;simp [frame71,Act.put, *]
      ·intro X w' hph hI;have e13 : X 13 = _ := zk1 (hI 13);have e14 : X 14 = _ := zk1 (hI 14);have e53 : X 53 = _ := zk1 (hI 53);have e54 : X 54 = _ := zk1 (hI 54);have e55 : X 55 = _ := zk1 (hI 55);have e56 : X 56 = _ := zk1 (hI 56);have e57 : X 57 = _ := zk1 (hI 57);have e58 : X 58 = _ := zk1 (hI 58);have e59 : X 59 = _ := zk1 (hI 59);have e60 : X 60 = _ := zk1 (hI 60);have e61 : X 61 = _ := zk1 (hI 61);clear hI;simp only [overF,List.foldl_cons,List.foldl_nil,List.setIfInBounds_toArray,List.set_cons_succ,List.set_cons_zero,e13,e14,e53,e54,e55,e56,e57,e58,e59,e60,e61];obtain ⟨hx1,hx2⟩ := hph;have HE7 := hide hx1;clear hx1 hx2 e53 e54 e55 e56 e57 e58 e59 e60 e61;generalize w' = W7 at *
       cases sb with
       | true =>
        go_wp2
        go_roundw
        case rel => exact ⟨i + 1,hlt,by go_num,HE7.out⟩
        case measure => simp [intOf]; omega
       | false =>
        go_wp2
        go_roundw
        case rel => exact ⟨i + 1,hlt,by go_num,HE7.out⟩
        case measure => simp [intOf]; omega
    ·obtain rfl : i = PP.length := (by omega);have hltz : ¬ (PP.length : Int) < PP.length := by omega
     go_wp2_with fail
     refine (lives33_any wr (HM.out.ext (HX3.out.trans HE.out))).mono ?_;rintro e w9 ⟨rfl,E9⟩;have HZ := hide (HX3.out.trans (HE.out.trans E9));clear E9
     go_wp2_with fail
     go_ret;exact ⟨rfl,HZ.out⟩
end Go.Proofs.YtceaeiaoanhlnaaGreatDoor
