import Derived.Test.YtceaeiaoanhlnaaGreatDoorGrH
import Derived.Test.YtceaeiaoanhlnaaGreatDoorGkV
namespace Go.Proofs.YtceaeiaoanhlnaaGreatDoor
open Go.ChangeShapes Go.WideShapes Go.ChangeAt Go.RowKit Go.Lib Go.Shelf Go.Maps
set_option maxRecDepth 100000 in
theorem frame76 (x : Nat → Value) : frameOf 76 x = #[x 0, x 1, x 2, x 3, x 4, x 5, x 6, x 7, x 8, x 9, x 10, x 11, x 12, x 13, x 14, x 15, x 16, x 17, x 18, x 19, x 20, x 21, x 22, x 23, x 24, x 25, x 26, x 27, x 28, x 29, x 30, x 31, x 32, x 33, x 34, x 35, x 36, x 37, x 38, x 39, x 40, x 41, x 42, x 43, x 44, x 45, x 46, x 47, x 48, x 49, x 50, x 51, x 52, x 53, x 54, x 55, x 56, x 57, x 58, x 59, x 60, x 61, x 62, x 63, x 64, x 65, x 66, x 67, x 68, x 69, x 70, x 71, x 72, x 73, x 74, x 75] := rfl
set_option maxRecDepth 100000 in
set_option maxHeartbeats 16000000 in
theorem walksl_any (L : List Int) (how fr tgt depth : Int) (v : Value) (w : World) (hm : MaxV w) (hs : Ints w v L) (hL : ∀ x ∈ L, I64 x) (hh : I64 how) (hfr : I64 fr) (htg : I64 tgt) (hdp : I64 depth) :
  Calls Tryz.prog 4 #[v, .int .i64 how, .int .i64 fr, .int .i64 tgt, .int .i64 depth] w fun e w' => e = .returned (.bool true) ∧ Ext w w' := by
 obtain ⟨cd, hcd1, hcd2⟩ := Tryz.confDesc
 have HM := hide hm
 have hA1 := fun X => around_any depth 21 X hdp (by decide)
 have hA2 := fun X => around_any depth 101 X hdp (by decide)
 have hA3 := fun X => around_any fr 6 X hfr (by decide)
 have hA4 := fun X => around_any tgt 6 X htg (by decide)
 have hb1 := around_bd depth 21 (by decide)
 have hb2 := around_bd depth 101 (by decide)
 have hb3 := around_bd fr 6 (by decide)
 have hb4 := around_bd tgt 6 (by decide)
 obtain ⟨d1, hd1⟩ : ∃ d : Nat, around depth 21 = d := ⟨(around depth 21).toNat, by omega⟩
 obtain ⟨d2, hd2⟩ : ∃ d : Nat, around depth 101 = d := ⟨(around depth 101).toNat, by omega⟩
 rw [hd1] at hA1 hb1
 rw [hd2] at hA2 hb2
 generalize around fr 6 = a at hA3 hb3
 generalize around tgt 6 = b at hA4 hb4
 have HA1 := hide hA1
 have HA2 := hide hA2
 have HA3 := hide hA3
 have HA4 := hide hA4
 have HAB := hide (show I64 fr ∧ I64 tgt ∧ I64 a ∧ I64 b ∧ d1 ≤ 200 ∧ d2 ≤ 200 from ⟨hfr, htg, by unfold I64; omega, by unfold I64; omega, by omega, by omega⟩)
 have HME := hide (mesh_any L how v w hs hL hh)
 clear hm hA1 hA2 hA3 hA4 hb1 hb2 hb3 hb4 hd1 hd2 hs hL
 go_enter Tryz.func4, Tryz.ntmps4
 go_wp2_with fail
 refine HME.out.mono ?_
 rintro e W1 ⟨c, c0, rfl, hc0, hc, ho, E1⟩
 obtain ⟨g1, g2, -⟩ := good_conf hc0
 have hgc : chkC c = 0 ∧ ConfFit c := by subst hc; exact ⟨meshC_right _ g2, meshC_fit _ (chk_R g2) g1⟩
 clear hc0 hc g1 g2 HME
 have hth := OwnC.there (Z := #[.slice none 0 0, .slice none 0 0, .slice none 0 0, .slice none 0 0, .int .i64 0, .int .i64 0, .int .i64 0, .int .i64 0, .int .i64 0, .int .i64 0, .int .i64 0, .int .i64 0, .int .i64 0, .int .i64 0, .int .i64 0, .int .i64 0, .int .i64 0, .int .i64 0, .int .i64 0, .int .i64 0]) rfl W1
 go_upto_region 2 with (refine wpList_store_mid rfl 30 (.tmp 11) (.tmp 18) rfl W1.heap.size 0 (encC c).toArray rfl rfl hth Tryz.confSize (all_oneCell_toArray (encC_oneG ho)) ?_)
 obtain ⟨h2, E2⟩ := OwnC.store (Z := #[.slice none 0 0, .slice none 0 0, .slice none 0 0, .slice none 0 0, .int .i64 0, .int .i64 0, .int .i64 0, .int .i64 0, .int .i64 0, .int .i64 0, .int .i64 0, .int .i64 0, .int .i64 0, .int .i64 0, .int .i64 0, .int .i64 0, .int .i64 0, .int .i64 0, .int .i64 0, .int .i64 0]) rfl ho
 show Code.wp _ _ _ _ ((W1.alloc (.cells #[.slice none 0 0, .slice none 0 0, .slice none 0 0, .slice none 0 0, .int .i64 0, .int .i64 0, .int .i64 0, .int .i64 0, .int .i64 0, .int .i64 0, .int .i64 0, .int .i64 0, .int .i64 0, .int .i64 0, .int .i64 0, .int .i64 0, .int .i64 0, .int .i64 0, .int .i64 0, .int .i64 0] 30)).setCells W1.heap.size 0 (encC c))
 generalize (W1.alloc (.cells #[.slice none 0 0, .slice none 0 0, .slice none 0 0, .slice none 0 0, .int .i64 0, .int .i64 0, .int .i64 0, .int .i64 0, .int .i64 0, .int .i64 0, .int .i64 0, .int .i64 0, .int .i64 0, .int .i64 0, .int .i64 0, .int .i64 0, .int .i64 0, .int .i64 0, .int .i64 0, .int .i64 0] 30)).setCells W1.heap.size 0 (encC c) = W2 at h2 E2 ⊢
 obtain ⟨b1, hb1⟩ : ∃ b, W1.heap.size = b := ⟨_, rfl⟩
 rw [hb1] at h2 ⊢
 have HX2 := hide (E1.trans E2)
 have HG := hide (h2.gc (HM.out.ext HX2.out) hgc.1 hgc.2)
 have HBX := hide (fun X (hX : Ext W2 X) => h2.box.ext hX)
 have HBX2 := hide HBX.out
 clear h2 E1 E2 ho hth hgc hb1 HBX
 go_wp2_with fail
 refine (HA1.out W2).mono ?_
 rintro e X1 ⟨rfl, rfl⟩
 go_wp2_with fail
 refine (HA2.out W2).mono ?_
 rintro e X2 ⟨rfl, rfl⟩
 go_upto_region 3 with (fail)
 have hxa : Ext W2 (W2.alloc (.cells #[.int .i64 (d1 : Int), .int .i64 (d2 : Int)] 3)) := (Below.refl _ _).alloc (Nat.le_refl _) _
 have hli := ints_lit2 W2 (d1 : Int) (d2 : Int)
 show Code.wp _ _ _ _ (W2.alloc (.cells #[.int .i64 (d1 : Int), .int .i64 (d2 : Int)] 3))
 generalize W2.alloc (.cells #[.int .i64 (d1 : Int), .int .i64 (d2 : Int)] 3) = W3 at hxa hli ⊢
 obtain ⟨gd, hgd⟩ : ∃ g, W2.heap.size = g := ⟨_, rfl⟩
 rw [hgd] at hli ⊢
 have HX3 := hide (HX2.out.trans hxa)
 have HG3 := hide (HG.out.ext hxa)
 have HBX := hide (fun X (hX : Ext W3 X) => HBX2.out X (hxa.trans hX))
 have HLI := hide hli
 clear hxa hli hgd HBX2 HG HX2 HA1 HA2
 go_wp2_with fail
 go_loopw [13] (fun v13 wr => ∃ i : Nat, i ≤ 2 ∧ v13 = .int .i64 i ∧ Ext W3 wr) (fun i _ => 2 - (intOf i).toNat)
 case atStart => exact ⟨0, Nat.zero_le _, rfl, Below.refl _ _⟩
 case round =>
  obtain ⟨i, hi, rfl, hext⟩ := hrel
  have HE := hide hext
  clear hext
  by_cases hlt : i < 2
  ·have hltz : (i : Int) < 2 := by omega
   have hwi : IntKind.i64.wrap ((i : Int) + 1) = ((i + 1 : Nat) : Int) := by rw [IntKind.wrap_i64]; omega
   obtain ⟨dd, hdx, hdb⟩ : ∃ dd : Nat, [(d1 : Int), (d2 : Int)][i]? = some (dd : Int) ∧ dd ≤ 200 := by
    rcases (by omega : i = 0 ∨ i = 1) with rfl | rfl
    ·exact ⟨d1, rfl, HAB.out.2.2.2.2.1⟩
    ·exact ⟨d2, rfl, HAB.out.2.2.2.2.2⟩
   obtain ⟨bq, oq, eq, -, hq⟩ := ints_row HLI.out i (by simp; omega)
   cases eq
   have hq' : W3.cell? ⟨gd, i, none⟩ = some (.int .i64 (dd : Int)) := by
    have e2 : [(d1 : Int), (d2 : Int)][i]'(by simp; omega) = (dd : Int) := (List.getElem?_eq_some_iff.1 hdx).2
    rw [e2, Nat.zero_add] at hq
    exact hq
   have HDC := hide (fun X (hX : Ext W3 X) => cell_ext hX hq')
   have h1 := fun X (hX : Ext W3 X) => gwalks_any c fr tgt dd X (HG3.out.ext hX) HAB.out.1 HAB.out.2.1 (by omega)
   have h2 := fun X (hX : Ext W3 X) => rwalks_any c fr tgt dd X (HG3.out.ext hX) (by omega)
   have h3 := fun X (hX : Ext W3 X) => gwalks_any c a b dd X (HG3.out.ext hX) HAB.out.2.2.1 HAB.out.2.2.2.1 (by omega)
   have h4 := fun X (hX : Ext W3 X) => rwalks_any c a b dd X (HG3.out.ext hX) (by omega)
   generalize lvl (kidsG c) tgt dd fr = z1 at h1 h2
   generalize lvl (kidsG c) b dd a = z2 at h3 h4
   have HP1 := hide h1
   have HQ1 := hide h2
   have HP2 := hide h3
   have HQ2 := hide h4
   clear h1 h2 h3 h4 hq hq' hdx hdb
   go_wp2_with fail
   refine (HA3.out wr).mono ?_
   rintro e X3 ⟨rfl, rfl⟩
   go_wp2_with fail
   refine (HA4.out wr).mono ?_
   rintro e X4 ⟨rfl, rfl⟩
   go_upto_region 8 with (fail)
   refine wp_region_ro 76 [32, 33, 34, 35, 36, 37, 38, 39, 40, 41, 42, 43, 44, 45, 46, 47, 48, 49, 50, 51, 52, 53, 54, 55, 56, 57, 58, 59, 60, 61, 62, 63, 64, 65, 66, 67] (fun w' => Ext wr w') (fun (t : Nat) (wI : World) (v : Value) => match t with | 32 => v = (.agg (encC c).toArray) | 33 => v = (.int .i64 fr) | 34 => v = (.int .i64 tgt) | 35 => v = (.slice (some ⟨gd, 0, none⟩) 2 2) | 36 => v = (.int .i64 (i : Int)) | 37 => v = (.pointer (some ⟨gd, i, none⟩)) | 38 => v = (.int .i64 (dd : Int)) | 39 => v = (.int .i64 z1) | 40 => v = (.agg (encC c).toArray) | 41 => v = (.int .i64 fr) | 42 => v = (.int .i64 tgt) | 43 => v = (.slice (some ⟨gd, 0, none⟩) 2 2) | 44 => v = (.int .i64 (i : Int)) | 45 => v = (.pointer (some ⟨gd, i, none⟩)) | 46 => v = (.int .i64 (dd : Int)) | 47 => v = (.int .i64 z1) | 48 => v = (.bool false) | 49 => v = (.bool false) | 50 => v = (.agg (encC c).toArray) | 51 => v = (.int .i64 a) | 52 => v = (.int .i64 b) | 53 => v = (.slice (some ⟨gd, 0, none⟩) 2 2) | 54 => v = (.int .i64 (i : Int)) | 55 => v = (.pointer (some ⟨gd, i, none⟩)) | 56 => v = (.int .i64 (dd : Int)) | 57 => v = (.int .i64 z2) | 58 => v = (.agg (encC c).toArray) | 59 => v = (.int .i64 a) | 60 => v = (.int .i64 b) | 61 => v = (.slice (some ⟨gd, 0, none⟩) 2 2) | 62 => v = (.int .i64 (i : Int)) | 63 => v = (.pointer (some ⟨gd, i, none⟩)) | 64 => v = (.int .i64 (dd : Int)) | 65 => v = (.int .i64 z2) | 66 => v = (.bool false) | 67 => v = (.bool false) | _ => True) (by kernel_rfl) rfl (by kernel_rfl) (by kernel_rfl) (by kernel_rfl) ?_ ?_ ?_ ?_ ?_
   ·intro t w' w'' v hR hv
    exact hv
   ·intro w' w'' h e
    exact Ext.trans (show Ext _ w' from h) e
   ·exact (Below.refl _ _).drew
   ·intro i o ho X w' hph hI hF K hK
    have hin : i < 36 := (Array.getElem?_eq_some_iff.1 ho).1
    have hi : i = 0 ∨ i = 1 ∨ i = 2 ∨ i = 3 ∨ i = 4 ∨ i = 5 ∨ i = 6 ∨ i = 7 ∨ i = 8 ∨ i = 9 ∨ i = 10 ∨ i = 11 ∨ i = 12 ∨ i = 13 ∨ i = 14 ∨ i = 15 ∨ i = 16 ∨ i = 17 ∨ i = 18 ∨ i = 19 ∨ i = 20 ∨ i = 21 ∨ i = 22 ∨ i = 23 ∨ i = 24 ∨ i = 25 ∨ i = 26 ∨ i = 27 ∨ i = 28 ∨ i = 29 ∨ i = 30 ∨ i = 31 ∨ i = 32 ∨ i = 33 ∨ i = 34 ∨ i = 35 := by omega
    rcases hi with rfl | rfl | rfl | rfl | rfl | rfl | rfl | rfl | rfl | rfl | rfl | rfl | rfl | rfl | rfl | rfl | rfl | rfl | rfl | rfl | rfl | rfl | rfl | rfl | rfl | rfl | rfl | rfl | rfl | rfl | rfl | rfl | rfl | rfl | rfl | rfl
    ·obtain rfl := Option.some.inj ho
     have e11 : X 11 = (.pointer (some ⟨b1, 0, none⟩)) := hF 11 (by kernel_rfl)
     have hx : Ext W3 w' := HE.out.trans hph
     unfold wpOp
     simp only [ho]
     rw [if_pos (by rfl)]
     left
     rw [frame76]
     refine wp_load_mid 30 (.tmp 11) rfl b1 0 e11 (encC c) cd (BoxC.range (HBX.out w' hx)) hcd1 hcd2 Tryz.confSize (metK (hK.out (.agg (encC c).toArray) _ (Below.refl _ _) (fun d hd => by cases hd; exact rfl)) ?_)
     simp [frame76, Act.put, *]
    ·obtain rfl := Option.some.inj ho
     have e2 : X 2 = (.int .i64 fr) := hF 2 (by kernel_rfl)
     unfold wpOp
     simp only [ho]
     rw [if_pos (by rfl)]
     left
     rw [frame76]
     go_simp
     refine metK (hK.out ((.int .i64 fr)) _ (Below.refl _ _) (fun d hd => by cases hd; exact rfl)) ?_
     simp [frame76, Act.put, *]
    ·obtain rfl := Option.some.inj ho
     have e3 : X 3 = (.int .i64 tgt) := hF 3 (by kernel_rfl)
     unfold wpOp
     simp only [ho]
     rw [if_pos (by rfl)]
     left
     rw [frame76]
     go_simp
     refine metK (hK.out ((.int .i64 tgt)) _ (Below.refl _ _) (fun d hd => by cases hd; exact rfl)) ?_
     simp [frame76, Act.put, *]
    ·obtain rfl := Option.some.inj ho
     have e12 : X 12 = (.slice (some ⟨gd, 0, none⟩) 2 2) := hF 12 (by kernel_rfl)
     unfold wpOp
     simp only [ho]
     rw [if_pos (by rfl)]
     left
     rw [frame76]
     go_simp
     refine metK (hK.out ((.slice (some ⟨gd, 0, none⟩) 2 2)) _ (Below.refl _ _) (fun d hd => by cases hd; exact rfl)) ?_
     simp [frame76, Act.put, *]
    ·obtain rfl := Option.some.inj ho
     have e13 : X 13 = (.int .i64 (i : Int)) := hF 13 (by kernel_rfl)
     unfold wpOp
     simp only [ho]
     rw [if_pos (by rfl)]
     left
     rw [frame76]
     go_simp
     refine metK (hK.out ((.int .i64 (i : Int))) _ (Below.refl _ _) (fun d hd => by cases hd; exact rfl)) ?_
     simp [frame76, Act.put, *]
    ·obtain rfl := Option.some.inj ho
     have e35 : X 35 = _ := hI 35 (by kernel_rfl)
     have e36 : X 36 = _ := hI 36 (by kernel_rfl)
     unfold wpOp
     simp only [ho]
     rw [if_pos (by rfl)]
     left
     rw [frame76]
     go_simp
     refine metK (hK.out ((.pointer (some ⟨gd, i, none⟩))) _ (Below.refl _ _) (fun d hd => by cases hd; exact rfl)) ?_
     simp [frame76, Act.put, *]
    ·obtain rfl := Option.some.inj ho
     have e37 : X 37 = _ := hI 37 (by kernel_rfl)
     have hx : Ext W3 w' := HE.out.trans hph
     have q := HDC.out w' hx
     unfold wpOp
     simp only [ho]
     rw [if_pos (by rfl)]
     left
     rw [frame76]
     go_simp
     refine metK (hK.out ((.int .i64 (dd : Int))) _ (Below.refl _ _) (fun d hd => by cases hd; exact rfl)) ?_
     simp [frame76, Act.put, *]
    ·obtain rfl := Option.some.inj ho
     have e32 : X 32 = _ := hI 32 (by kernel_rfl)
     have e33 : X 33 = _ := hI 33 (by kernel_rfl)
     have e34 : X 34 = _ := hI 34 (by kernel_rfl)
     have e38 : X 38 = _ := hI 38 (by kernel_rfl)
     have hx : Ext W3 w' := HE.out.trans hph
     unfold wpOp
     simp only [ho]
     rw [if_pos (by rfl)]
     left
     rw [frame76]
     go_simp
     refine (HP1.out w' hx).mono ?_
     rintro e w9 ⟨rfl, E9⟩
     refine metK (hK.out (.int .i64 z1) w9 E9 (fun d hd => by cases hd; exact rfl)) ?_
     simp [frame76, Act.put, *]
    ·obtain rfl := Option.some.inj ho
     have e11 : X 11 = (.pointer (some ⟨b1, 0, none⟩)) := hF 11 (by kernel_rfl)
     have hx : Ext W3 w' := HE.out.trans hph
     unfold wpOp
     simp only [ho]
     rw [if_pos (by rfl)]
     left
     rw [frame76]
     refine wp_load_mid 30 (.tmp 11) rfl b1 0 e11 (encC c) cd (BoxC.range (HBX.out w' hx)) hcd1 hcd2 Tryz.confSize (metK (hK.out (.agg (encC c).toArray) _ (Below.refl _ _) (fun d hd => by cases hd; exact rfl)) ?_)
     simp [frame76, Act.put, *]
    ·obtain rfl := Option.some.inj ho
     have e2 : X 2 = (.int .i64 fr) := hF 2 (by kernel_rfl)
     unfold wpOp
     simp only [ho]
     rw [if_pos (by rfl)]
     left
     rw [frame76]
     go_simp
     refine metK (hK.out ((.int .i64 fr)) _ (Below.refl _ _) (fun d hd => by cases hd; exact rfl)) ?_
     simp [frame76, Act.put, *]
    ·obtain rfl := Option.some.inj ho
     have e3 : X 3 = (.int .i64 tgt) := hF 3 (by kernel_rfl)
     unfold wpOp
     simp only [ho]
     rw [if_pos (by rfl)]
     left
     rw [frame76]
     go_simp
     refine metK (hK.out ((.int .i64 tgt)) _ (Below.refl _ _) (fun d hd => by cases hd; exact rfl)) ?_
     simp [frame76, Act.put, *]
    ·obtain rfl := Option.some.inj ho
     have e12 : X 12 = (.slice (some ⟨gd, 0, none⟩) 2 2) := hF 12 (by kernel_rfl)
     unfold wpOp
     simp only [ho]
     rw [if_pos (by rfl)]
     left
     rw [frame76]
     go_simp
     refine metK (hK.out ((.slice (some ⟨gd, 0, none⟩) 2 2)) _ (Below.refl _ _) (fun d hd => by cases hd; exact rfl)) ?_
     simp [frame76, Act.put, *]
    ·obtain rfl := Option.some.inj ho
     have e13 : X 13 = (.int .i64 (i : Int)) := hF 13 (by kernel_rfl)
     unfold wpOp
     simp only [ho]
     rw [if_pos (by rfl)]
     left
     rw [frame76]
     go_simp
     refine metK (hK.out ((.int .i64 (i : Int))) _ (Below.refl _ _) (fun d hd => by cases hd; exact rfl)) ?_
     simp [frame76, Act.put, *]
    ·obtain rfl := Option.some.inj ho
     have e43 : X 43 = _ := hI 43 (by kernel_rfl)
     have e44 : X 44 = _ := hI 44 (by kernel_rfl)
     unfold wpOp
     simp only [ho]
     rw [if_pos (by rfl)]
     left
     rw [frame76]
     go_simp
     refine metK (hK.out ((.pointer (some ⟨gd, i, none⟩))) _ (Below.refl _ _) (fun d hd => by cases hd; exact rfl)) ?_
     simp [frame76, Act.put, *]
    ·obtain rfl := Option.some.inj ho
     have e45 : X 45 = _ := hI 45 (by kernel_rfl)
     have hx : Ext W3 w' := HE.out.trans hph
     have q := HDC.out w' hx
     unfold wpOp
     simp only [ho]
     rw [if_pos (by rfl)]
     left
     rw [frame76]
     go_simp
     refine metK (hK.out ((.int .i64 (dd : Int))) _ (Below.refl _ _) (fun d hd => by cases hd; exact rfl)) ?_
     simp [frame76, Act.put, *]
    ·obtain rfl := Option.some.inj ho
     have e40 : X 40 = _ := hI 40 (by kernel_rfl)
     have e41 : X 41 = _ := hI 41 (by kernel_rfl)
     have e42 : X 42 = _ := hI 42 (by kernel_rfl)
     have e46 : X 46 = _ := hI 46 (by kernel_rfl)
     have hx : Ext W3 w' := HE.out.trans hph
     unfold wpOp
     simp only [ho]
     rw [if_pos (by rfl)]
     left
     rw [frame76]
     go_simp
     refine (HQ1.out w' hx).mono ?_
     rintro e w9 ⟨rfl, E9⟩
     refine metK (hK.out (.int .i64 z1) w9 E9 (fun d hd => by cases hd; exact rfl)) ?_
     simp [frame76, Act.put, *]
    ·obtain rfl := Option.some.inj ho
     have e39 : X 39 = _ := hI 39 (by kernel_rfl)
     have e47 : X 47 = _ := hI 47 (by kernel_rfl)
     unfold wpOp
     simp only [ho]
     rw [if_pos (by rfl)]
     left
     rw [frame76]
     go_simp
     refine metK (hK.out ((.bool false)) _ (Below.refl _ _) (fun d hd => by cases hd; exact rfl)) ?_
     simp [frame76, Act.put, *]
    ·obtain rfl := Option.some.inj ho
     have e48 : X 48 = _ := hI 48 (by kernel_rfl)
     unfold wpOp
     simp only [ho]
     rw [if_pos (by rfl)]
     left
     rw [frame76]
     go_simp
     refine metK (hK.out ((.bool false)) _ (Below.refl _ _) (fun d hd => by cases hd; exact rfl)) ?_
     simp [frame76, Act.put, *]
    ·obtain rfl := Option.some.inj ho
     have e11 : X 11 = (.pointer (some ⟨b1, 0, none⟩)) := hF 11 (by kernel_rfl)
     have e49 : X 49 = _ := hI 49 (by kernel_rfl)
     have hx : Ext W3 w' := HE.out.trans hph
     unfold wpOp
     simp only [ho]
     rw [frame76]
     simp only [e49]
     rw [if_pos (by rfl)]
     left
     refine wp_load_mid 30 (.tmp 11) rfl b1 0 e11 (encC c) cd (BoxC.range (HBX.out w' hx)) hcd1 hcd2 Tryz.confSize (metK (hK.out (.agg (encC c).toArray) _ (Below.refl _ _) (fun d hd => by cases hd; exact rfl)) ?_)
     simp [frame76, Act.put, *]
    ·obtain rfl := Option.some.inj ho
     have e14 : X 14 = (.int .i64 a) := hF 14 (by kernel_rfl)
     have e49 : X 49 = _ := hI 49 (by kernel_rfl)
     unfold wpOp
     simp only [ho]
     rw [frame76]
     simp only [e49]
     rw [if_pos (by rfl)]
     left
     go_simp
     refine metK (hK.out ((.int .i64 a)) _ (Below.refl _ _) (fun d hd => by cases hd; exact rfl)) ?_
     simp [frame76, Act.put, *]
    ·obtain rfl := Option.some.inj ho
     have e15 : X 15 = (.int .i64 b) := hF 15 (by kernel_rfl)
     have e49 : X 49 = _ := hI 49 (by kernel_rfl)
     unfold wpOp
     simp only [ho]
     rw [frame76]
     simp only [e49]
     rw [if_pos (by rfl)]
     left
     go_simp
     refine metK (hK.out ((.int .i64 b)) _ (Below.refl _ _) (fun d hd => by cases hd; exact rfl)) ?_
     simp [frame76, Act.put, *]
    ·obtain rfl := Option.some.inj ho
     have e12 : X 12 = (.slice (some ⟨gd, 0, none⟩) 2 2) := hF 12 (by kernel_rfl)
     have e49 : X 49 = _ := hI 49 (by kernel_rfl)
     unfold wpOp
     simp only [ho]
     rw [frame76]
     simp only [e49]
     rw [if_pos (by rfl)]
     left
     go_simp
     refine metK (hK.out ((.slice (some ⟨gd, 0, none⟩) 2 2)) _ (Below.refl _ _) (fun d hd => by cases hd; exact rfl)) ?_
     simp [frame76, Act.put, *]
    ·obtain rfl := Option.some.inj ho
     have e13 : X 13 = (.int .i64 (i : Int)) := hF 13 (by kernel_rfl)
     have e49 : X 49 = _ := hI 49 (by kernel_rfl)
     unfold wpOp
     simp only [ho]
     rw [frame76]
     simp only [e49]
     rw [if_pos (by rfl)]
     left
     go_simp
     refine metK (hK.out ((.int .i64 (i : Int))) _ (Below.refl _ _) (fun d hd => by cases hd; exact rfl)) ?_
     simp [frame76, Act.put, *]
    ·obtain rfl := Option.some.inj ho
     have e49 : X 49 = _ := hI 49 (by kernel_rfl)
     have e53 : X 53 = _ := hI 53 (by kernel_rfl)
     have e54 : X 54 = _ := hI 54 (by kernel_rfl)
     unfold wpOp
     simp only [ho]
     rw [frame76]
     simp only [e49]
     rw [if_pos (by rfl)]
     left
     go_simp
     refine metK (hK.out ((.pointer (some ⟨gd, i, none⟩))) _ (Below.refl _ _) (fun d hd => by cases hd; exact rfl)) ?_
     simp [frame76, Act.put, *]
    ·obtain rfl := Option.some.inj ho
     have e49 : X 49 = _ := hI 49 (by kernel_rfl)
     have e55 : X 55 = _ := hI 55 (by kernel_rfl)
     have hx : Ext W3 w' := HE.out.trans hph
     have q := HDC.out w' hx
     unfold wpOp
     simp only [ho]
     rw [frame76]
     simp only [e49]
     rw [if_pos (by rfl)]
     left
     go_simp
     refine metK (hK.out ((.int .i64 (dd : Int))) _ (Below.refl _ _) (fun d hd => by cases hd; exact rfl)) ?_
     simp [frame76, Act.put, *]
    ·obtain rfl := Option.some.inj ho
     have e49 : X 49 = _ := hI 49 (by kernel_rfl)
     have e50 : X 50 = _ := hI 50 (by kernel_rfl)
     have e51 : X 51 = _ := hI 51 (by kernel_rfl)
     have e52 : X 52 = _ := hI 52 (by kernel_rfl)
     have e56 : X 56 = _ := hI 56 (by kernel_rfl)
     have hx : Ext W3 w' := HE.out.trans hph
     unfold wpOp
     simp only [ho]
     rw [frame76]
     simp only [e49]
     rw [if_pos (by rfl)]
     left
     go_simp
     refine (HP2.out w' hx).mono ?_
     rintro e w9 ⟨rfl, E9⟩
     refine metK (hK.out (.int .i64 z2) w9 E9 (fun d hd => by cases hd; exact rfl)) ?_
     simp [frame76, Act.put, *]
    ·obtain rfl := Option.some.inj ho
     have e11 : X 11 = (.pointer (some ⟨b1, 0, none⟩)) := hF 11 (by kernel_rfl)
     have e49 : X 49 = _ := hI 49 (by kernel_rfl)
     have hx : Ext W3 w' := HE.out.trans hph
     unfold wpOp
     simp only [ho]
     rw [frame76]
     simp only [e49]
     rw [if_pos (by rfl)]
     left
     refine wp_load_mid 30 (.tmp 11) rfl b1 0 e11 (encC c) cd (BoxC.range (HBX.out w' hx)) hcd1 hcd2 Tryz.confSize (metK (hK.out (.agg (encC c).toArray) _ (Below.refl _ _) (fun d hd => by cases hd; exact rfl)) ?_)
     simp [frame76, Act.put, *]
    ·obtain rfl := Option.some.inj ho
     have e14 : X 14 = (.int .i64 a) := hF 14 (by kernel_rfl)
     have e49 : X 49 = _ := hI 49 (by kernel_rfl)
     unfold wpOp
     simp only [ho]
     rw [frame76]
     simp only [e49]
     rw [if_pos (by rfl)]
     left
     go_simp
     refine metK (hK.out ((.int .i64 a)) _ (Below.refl _ _) (fun d hd => by cases hd; exact rfl)) ?_
     simp [frame76, Act.put, *]
    ·obtain rfl := Option.some.inj ho
     have e15 : X 15 = (.int .i64 b) := hF 15 (by kernel_rfl)
     have e49 : X 49 = _ := hI 49 (by kernel_rfl)
     unfold wpOp
     simp only [ho]
     rw [frame76]
     simp only [e49]
     rw [if_pos (by rfl)]
     left
     go_simp
     refine metK (hK.out ((.int .i64 b)) _ (Below.refl _ _) (fun d hd => by cases hd; exact rfl)) ?_
     simp [frame76, Act.put, *]
    ·obtain rfl := Option.some.inj ho
     have e12 : X 12 = (.slice (some ⟨gd, 0, none⟩) 2 2) := hF 12 (by kernel_rfl)
     have e49 : X 49 = _ := hI 49 (by kernel_rfl)
     unfold wpOp
     simp only [ho]
     rw [frame76]
     simp only [e49]
     rw [if_pos (by rfl)]
     left
     go_simp
     refine metK (hK.out ((.slice (some ⟨gd, 0, none⟩) 2 2)) _ (Below.refl _ _) (fun d hd => by cases hd; exact rfl)) ?_
     simp [frame76, Act.put, *]
    ·obtain rfl := Option.some.inj ho
     have e13 : X 13 = (.int .i64 (i : Int)) := hF 13 (by kernel_rfl)
     have e49 : X 49 = _ := hI 49 (by kernel_rfl)
     unfold wpOp
     simp only [ho]
     rw [frame76]
     simp only [e49]
     rw [if_pos (by rfl)]
     left
     go_simp
     refine metK (hK.out ((.int .i64 (i : Int))) _ (Below.refl _ _) (fun d hd => by cases hd; exact rfl)) ?_
     simp [frame76, Act.put, *]
    ·obtain rfl := Option.some.inj ho
     have e49 : X 49 = _ := hI 49 (by kernel_rfl)
     have e61 : X 61 = _ := hI 61 (by kernel_rfl)
     have e62 : X 62 = _ := hI 62 (by kernel_rfl)
     unfold wpOp
     simp only [ho]
     rw [frame76]
     simp only [e49]
     rw [if_pos (by rfl)]
     left
     go_simp
     refine metK (hK.out ((.pointer (some ⟨gd, i, none⟩))) _ (Below.refl _ _) (fun d hd => by cases hd; exact rfl)) ?_
     simp [frame76, Act.put, *]
    ·obtain rfl := Option.some.inj ho
     have e49 : X 49 = _ := hI 49 (by kernel_rfl)
     have e63 : X 63 = _ := hI 63 (by kernel_rfl)
     have hx : Ext W3 w' := HE.out.trans hph
     have q := HDC.out w' hx
     unfold wpOp
     simp only [ho]
     rw [frame76]
     simp only [e49]
     rw [if_pos (by rfl)]
     left
     go_simp
     refine metK (hK.out ((.int .i64 (dd : Int))) _ (Below.refl _ _) (fun d hd => by cases hd; exact rfl)) ?_
     simp [frame76, Act.put, *]
    ·obtain rfl := Option.some.inj ho
     have e49 : X 49 = _ := hI 49 (by kernel_rfl)
     have e58 : X 58 = _ := hI 58 (by kernel_rfl)
     have e59 : X 59 = _ := hI 59 (by kernel_rfl)
     have e60 : X 60 = _ := hI 60 (by kernel_rfl)
     have e64 : X 64 = _ := hI 64 (by kernel_rfl)
     have hx : Ext W3 w' := HE.out.trans hph
     unfold wpOp
     simp only [ho]
     rw [frame76]
     simp only [e49]
     rw [if_pos (by rfl)]
     left
     go_simp
     refine (HQ2.out w' hx).mono ?_
     rintro e w9 ⟨rfl, E9⟩
     refine metK (hK.out (.int .i64 z2) w9 E9 (fun d hd => by cases hd; exact rfl)) ?_
     simp [frame76, Act.put, *]
    ·obtain rfl := Option.some.inj ho
     have e49 : X 49 = _ := hI 49 (by kernel_rfl)
     have e57 : X 57 = _ := hI 57 (by kernel_rfl)
     have e65 : X 65 = _ := hI 65 (by kernel_rfl)
     unfold wpOp
     simp only [ho]
     rw [frame76]
     simp only [e49]
     rw [if_pos (by rfl)]
     left
     go_simp
     refine metK (hK.out ((.bool false)) _ (Below.refl _ _) (fun d hd => by cases hd; exact rfl)) ?_
     simp [frame76, Act.put, *]
    ·obtain rfl := Option.some.inj ho
     have e49 : X 49 = _ := hI 49 (by kernel_rfl)
     have e66 : X 66 = _ := hI 66 (by kernel_rfl)
     unfold wpOp
     simp only [ho]
     rw [if_pos (by rfl)]
     left
     rw [frame76]
     go_simp
     refine metK (hK.out ((.bool false)) _ (Below.refl _ _) (fun d hd => by cases hd; exact rfl)) ?_
     simp [frame76, Act.put, *]
   ·intro X w' hph hI
    have e32 : X 32 = _ := hI 32 (by kernel_rfl)
    have e33 : X 33 = _ := hI 33 (by kernel_rfl)
    have e34 : X 34 = _ := hI 34 (by kernel_rfl)
    have e35 : X 35 = _ := hI 35 (by kernel_rfl)
    have e36 : X 36 = _ := hI 36 (by kernel_rfl)
    have e37 : X 37 = _ := hI 37 (by kernel_rfl)
    have e38 : X 38 = _ := hI 38 (by kernel_rfl)
    have e39 : X 39 = _ := hI 39 (by kernel_rfl)
    have e40 : X 40 = _ := hI 40 (by kernel_rfl)
    have e41 : X 41 = _ := hI 41 (by kernel_rfl)
    have e42 : X 42 = _ := hI 42 (by kernel_rfl)
    have e43 : X 43 = _ := hI 43 (by kernel_rfl)
    have e44 : X 44 = _ := hI 44 (by kernel_rfl)
    have e45 : X 45 = _ := hI 45 (by kernel_rfl)
    have e46 : X 46 = _ := hI 46 (by kernel_rfl)
    have e47 : X 47 = _ := hI 47 (by kernel_rfl)
    have e48 : X 48 = _ := hI 48 (by kernel_rfl)
    have e49 : X 49 = _ := hI 49 (by kernel_rfl)
    have e50 : X 50 = _ := hI 50 (by kernel_rfl)
    have e51 : X 51 = _ := hI 51 (by kernel_rfl)
    have e52 : X 52 = _ := hI 52 (by kernel_rfl)
    have e53 : X 53 = _ := hI 53 (by kernel_rfl)
    have e54 : X 54 = _ := hI 54 (by kernel_rfl)
    have e55 : X 55 = _ := hI 55 (by kernel_rfl)
    have e56 : X 56 = _ := hI 56 (by kernel_rfl)
    have e57 : X 57 = _ := hI 57 (by kernel_rfl)
    have e58 : X 58 = _ := hI 58 (by kernel_rfl)
    have e59 : X 59 = _ := hI 59 (by kernel_rfl)
    have e60 : X 60 = _ := hI 60 (by kernel_rfl)
    have e61 : X 61 = _ := hI 61 (by kernel_rfl)
    have e62 : X 62 = _ := hI 62 (by kernel_rfl)
    have e63 : X 63 = _ := hI 63 (by kernel_rfl)
    have e64 : X 64 = _ := hI 64 (by kernel_rfl)
    have e65 : X 65 = _ := hI 65 (by kernel_rfl)
    have e66 : X 66 = _ := hI 66 (by kernel_rfl)
    have e67 : X 67 = _ := hI 67 (by kernel_rfl)
    clear hI
    simp only [overF, List.foldl_cons, List.foldl_nil, List.setIfInBounds_toArray, List.set_cons_succ, List.set_cons_zero, e32, e33, e34, e35, e36, e37, e38, e39, e40, e41, e42, e43, e44, e45, e46, e47, e48, e49, e50, e51, e52, e53, e54, e55, e56, e57, e58, e59, e60, e61, e62, e63, e64, e65, e66, e67]
    have hx9 : Ext wr w' := hph
    have HE9 := hide (HE.out.trans hx9)
    clear hph hx9 e32 e33 e34 e35 e36 e37 e38 e39 e40 e41 e42 e43 e44 e45 e46 e47 e48 e49 e50 e51 e52 e53 e54 e55 e56 e57 e58 e59 e60 e61 e62 e63 e64 e65 e66 e67
    generalize w' = W9 at *
    go_wp2
    go_roundw
    case rel => exact ⟨i + 1, hlt, by go_num, HE9.out⟩
    case measure => simp [intOf] <;> omega
  ·obtain rfl : i = 2 := by omega
   have hltz : ¬ ((2 : Nat) : Int) < 2 := by omega
   have hbx := HBX.out wr HE.out
   have hgw := gwalks_any c fr fr 0 wr (HG3.out.ext HE.out) HAB.out.1 HAB.out.1 (by omega)
   rw [show lvl (kidsG c) fr 0 fr = 1 from if_pos rfl] at hgw
   have hgw0 : Calls Tryz.prog 17 #[.agg (encC c).toArray, .int .i64 fr, .int .i64 fr, .int .i64 0] wr fun e w' => e = .returned (.int .i64 1) ∧ Ext wr w' := hgw
   have HGW := hide hgw0
   clear hgw hgw0
   go_wp2_with (first | (refine BigFrame.wpList_want (by rfl) fun K hK => ?_; refine wp_load_mid 30 (.tmp 11) rfl b1 0 rfl (encC c) cd hbx.range hcd1 hcd2 Tryz.confSize ?_; refine hK _ _ ?_; simp only [Act.put]))
   refine HGW.out.mono ?_
   rintro e W6 ⟨rfl, E6⟩
   have HE6 := hide (HX3.out.trans (HE.out.trans E6))
   clear E6 hbx
   go_wp2_with fail
   refine (lives33_any W6 (HM.out.ext HE6.out)).mono ?_
   rintro e w9 ⟨rfl, E9⟩
   have HZ := hide (HE6.out.trans E9)
   clear E9
   go_wp2_with fail
   go_ret
   exact ⟨rfl, HZ.out⟩
end Go.Proofs.YtceaeiaoanhlnaaGreatDoor
