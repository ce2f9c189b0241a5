import Derived.Test.YtceaeiaoanhlnaaGreatDoorGrF
import Derived.Test.YtceaeiaoanhlnaaGreatDoorGkV
namespace Go.Proofs.YtceaeiaoanhlnaaGreatDoor
open Go.ChangeShapes Go.WideShapes Go.ChangeAt Go.RowKit Go.Lib Go.Shelf Go.Maps
set_option maxRecDepth 100000 in
set_option maxHeartbeats 16000000 in
theorem runs_any (L : List Int) (how fr tgt depth : Int) (D : List Int) (v dv : Value) (w : World) (hm : MaxV w) (hs : Ints w v L) (hL : ∀ x ∈ L, I64 x) (hh : I64 how) (hfr : I64 fr) (htg : I64 tgt) (hdp : I64 depth) (hd : Ints w dv D) (hD : ∀ x ∈ D, I64 x) :
  Calls Tryz.prog 6 #[v, .int .i64 how, .int .i64 fr, .int .i64 tgt, .int .i64 depth, dv] w fun e w' => e = .returned (.bool true) ∧ Ext w w' := by
 obtain ⟨cd, hcd1, hcd2⟩ := Tryz.confDesc
 have HM := hide hm
 have hA1 := fun X => around_any fr 5 X hfr (by decide)
 have hA2 := fun X => around_any tgt 5 X htg (by decide)
 have hA3 := fun X => around_any depth 7 X hdp (by decide)
 have hb1 := around_bd fr 5 (by decide)
 have hb2 := around_bd tgt 5 (by decide)
 have hb3 := around_bd depth 7 (by decide)
 generalize around fr 5 = a at hA1 hb1
 generalize around tgt 5 = b at hA2 hb2
 obtain ⟨d, hdd⟩ : ∃ d : Nat, around depth 7 = d := ⟨(around depth 7).toNat, by omega⟩
 rw [hdd] at hA3 hb3
 have HA1 := hide hA1
 have HA2 := hide hA2
 have HA3 := hide hA3
 have HAB := hide (show I64 a ∧ I64 b ∧ d ≤ 60 from by unfold I64; omega)
 have HME := hide (mesh_any L how v w hs hL hh)
 obtain ⟨_, da, dc, rfl⟩ := hd.shape
 have HDV := hide (fun X (hX : Ext w X) => hd.ext hX)
 have HDI := hide hD
 clear hm hA1 hA2 hA3 hb1 hb2 hb3 hdd hs hL hd hD
 go_enter Tryz.func6, Tryz.ntmps6
 go_wp2_with fail
 refine HME.out.mono ?_
 rintro e W1 ⟨c, c0, rfl, hc0, hc, ho, E1⟩
 obtain ⟨g1, g2, -⟩ := good_conf hc0
 have hgc : chkC c = 0 ∧ ConfFit c := by subst hc; exact ⟨meshC_right _ g2, meshC_fit _ (chk_R g2) g1⟩
 clear hc0 hc g1 g2 HME
 have hth := OwnC.there (Z := #[.slice none 0 0, .slice none 0 0, .slice none 0 0, .slice none 0 0, .int .i64 0, .int .i64 0, .int .i64 0, .int .i64 0, .int .i64 0, .int .i64 0, .int .i64 0, .int .i64 0, .int .i64 0, .int .i64 0, .int .i64 0, .int .i64 0, .int .i64 0, .int .i64 0, .int .i64 0, .int .i64 0]) rfl W1
 go_upto_region 2 with (refine wpList_store_mid rfl 30 (.tmp 13) (.tmp 21) rfl W1.heap.size 0 (encC c).toArray rfl rfl hth Tryz.confSize (all_oneCell_toArray (encC_oneG ho)) ?_)
 obtain ⟨h2, E2⟩ := OwnC.store (Z := #[.slice none 0 0, .slice none 0 0, .slice none 0 0, .slice none 0 0, .int .i64 0, .int .i64 0, .int .i64 0, .int .i64 0, .int .i64 0, .int .i64 0, .int .i64 0, .int .i64 0, .int .i64 0, .int .i64 0, .int .i64 0, .int .i64 0, .int .i64 0, .int .i64 0, .int .i64 0, .int .i64 0]) rfl ho
 show Code.wp _ _ _ _ ((W1.alloc (.cells #[.slice none 0 0, .slice none 0 0, .slice none 0 0, .slice none 0 0, .int .i64 0, .int .i64 0, .int .i64 0, .int .i64 0, .int .i64 0, .int .i64 0, .int .i64 0, .int .i64 0, .int .i64 0, .int .i64 0, .int .i64 0, .int .i64 0, .int .i64 0, .int .i64 0, .int .i64 0, .int .i64 0] 30)).setCells W1.heap.size 0 (encC c))
 generalize (W1.alloc (.cells #[.slice none 0 0, .slice none 0 0, .slice none 0 0, .slice none 0 0, .int .i64 0, .int .i64 0, .int .i64 0, .int .i64 0, .int .i64 0, .int .i64 0, .int .i64 0, .int .i64 0, .int .i64 0, .int .i64 0, .int .i64 0, .int .i64 0, .int .i64 0, .int .i64 0, .int .i64 0, .int .i64 0] 30)).setCells W1.heap.size 0 (encC c) = W2 at h2 E2 ⊢
 obtain ⟨b1, hb1⟩ : ∃ b, W1.heap.size = b := ⟨_, rfl⟩
 rw [hb1] at h2 ⊢
 have HX2 := hide (E1.trans E2)
 have HG := hide (h2.gc (HM.out.ext HX2.out) hgc.1 hgc.2)
 have HBX := hide (fun X (hX : Ext W2 X) => h2.box.ext hX)
 clear h2 E1 E2 ho hth hgc hb1
 go_wp2_with fail
 refine (HA1.out W2).mono ?_
 rintro e X1 ⟨rfl, rfl⟩
 go_wp2_with fail
 refine (HA2.out W2).mono ?_
 rintro e X2 ⟨rfl, rfl⟩
 go_wp2_with fail
 refine (HA3.out W2).mono ?_
 rintro e X3 ⟨rfl, rfl⟩
 have hbx := HBX.out W2 (Below.refl _ _)
 have hrun := run_any c b D HDI.out d (by have := HAB.out.2.2; omega) a 0 _ W2 HG.out (HDV.out W2 HX2.out) (by omega)
 have hle := runN_le (kidsG c) b D d a 0 (by omega)
 have hbd := runN_bd (kidsG c) b D d a 0 (by omega)
 unfold RunP at hrun
 obtain ⟨r1, hr1⟩ : ∃ q, (runN (kidsG c) b D d a 0).1 = q := ⟨_, rfl⟩
 obtain ⟨r2, hr2⟩ : ∃ q, (runN (kidsG c) b D d a 0).2 = q := ⟨_, rfl⟩
 rw [hr1, hr2] at hrun
 rw [hr1] at hle
 have hrun0 : Calls Tryz.prog 22 #[.agg (encC c).toArray, .int .i64 a, .int .i64 b, .int .i64 (d : Int), .slice da D.length dc, .int .i64 0] W2 fun e w' => e = .returned (.tuple #[.int .i64 (r1 : Int), .int .i64 (r2 : Int)]) ∧ Ext W2 w' := hrun
 have HRUN := hide hrun0
 have HLE := hide hle
 clear hrun hrun0 hle hbd hr1 hr2
 go_wp2_with (first | (refine BigFrame.wpList_want (by rfl) fun K hK => ?_; refine wp_load_mid 30 (.tmp 13) rfl b1 0 rfl (encC c) cd hbx.range hcd1 hcd2 Tryz.confSize ?_; refine hK _ _ ?_; simp only [Act.put]))
 refine HRUN.out.mono ?_
 rintro e W5 ⟨rfl, E5⟩
 have HE5 := hide E5
 have hbx := HBX.out W5 E5
 clear E5 HRUN
 have hgw := gwalks_any c a b d W5 (HG.out.ext HE5.out) HAB.out.1 HAB.out.2.1 (by have := HAB.out.2.2; omega)
 have hle := HLE.out
 generalize lvl (kidsG c) b d a = N at hgw hle
 have HGW := hide hgw
 have hled : decide ((r1 : Int) ≤ N) = true := decide_eq_true hle
 clear hgw
 go_wp2_with (first | (refine BigFrame.wpList_want (by rfl) fun K hK => ?_; refine wp_load_mid 30 (.tmp 13) rfl b1 0 rfl (encC c) cd hbx.range hcd1 hcd2 Tryz.confSize ?_; refine hK _ _ ?_; simp only [Act.put]))
 refine HGW.out.mono ?_
 rintro e W6 ⟨rfl, E6⟩
 have HE6 := hide (HX2.out.trans (HE5.out.trans E6))
 clear E6 hbx
 go_wp2_with fail
 refine (lives33_any W6 (HM.out.ext HE6.out)).mono ?_
 rintro e w9 ⟨rfl, E9⟩
 have HZ := hide (HE6.out.trans E9)
 clear E9
 go_wp2_with fail
 go_ret
 exact ⟨rfl, HZ.out⟩
end Go.Proofs.YtceaeiaoanhlnaaGreatDoor
