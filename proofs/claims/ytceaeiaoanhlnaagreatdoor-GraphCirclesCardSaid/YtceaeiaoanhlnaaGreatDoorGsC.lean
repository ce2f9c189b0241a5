import Derived.Test.YtceaeiaoanhlnaaGreatDoorGrG
import Derived.Test.YtceaeiaoanhlnaaGreatDoorGkV
import Derived.Test.YtceaeiaoanhlnaaGreatDoorGpI
namespace Go.Proofs.YtceaeiaoanhlnaaGreatDoor
open Go.ChangeShapes Go.WideShapes Go.ChangeAt Go.RowKit Go.Lib Go.Shelf Go.Maps
set_option maxRecDepth 100000 in
theorem frame69 (x : Nat → Value) : frameOf 69 x = #[x 0, x 1, x 2, x 3, x 4, x 5, x 6, x 7, x 8, x 9, x 10, x 11, x 12, x 13, x 14, x 15, x 16, x 17, x 18, x 19, x 20, x 21, x 22, x 23, x 24, x 25, x 26, x 27, x 28, x 29, x 30, x 31, x 32, x 33, x 34, x 35, x 36, x 37, x 38, x 39, x 40, x 41, x 42, x 43, x 44, x 45, x 46, x 47, x 48, x 49, x 50, x 51, x 52, x 53, x 54, x 55, x 56, x 57, x 58, x 59, x 60, x 61, x 62, x 63, x 64, x 65, x 66, x 67, x 68] := rfl
set_option maxRecDepth 100000 in
set_option maxHeartbeats 16000000 in
theorem circ_any (L : List Int) (how fr tgt : Int) (v : Value) (w : World) (hm : MaxV w) (hs : Ints w v L) (hL : ∀ x ∈ L, I64 x) (hh : I64 how) (hfr : I64 fr) (htg : I64 tgt) :
  Calls Tryz.prog 7 #[v, .int .i64 how, .int .i64 fr, .int .i64 tgt] w fun e w' => e = .returned (.bool true) ∧ Ext w w' := by
 obtain ⟨cd, hcd1, hcd2⟩ := Tryz.confDesc
 have HM := hide hm
 have hA1 := fun X => around_any fr 6 X hfr (by decide)
 have hA2 := fun X => around_any tgt 6 X htg (by decide)
 have hb1 := around_bd fr 6 (by decide)
 have hb2 := around_bd tgt 6 (by decide)
 generalize around fr 6 = a at hA1 hb1
 generalize around tgt 6 = b at hA2 hb2
 have HA1 := hide hA1
 have HA2 := hide hA2
 have HAB := hide (show I64 a ∧ I64 b from by unfold I64; omega)
 have HME := hide (mesh_any L how v w hs hL hh)
 clear hm hA1 hA2 hb1 hb2 hs hL
 go_enter Tryz.func7, Tryz.ntmps7
 go_wp2_with fail
 refine HME.out.mono ?_
 rintro e W1 ⟨c, c0, rfl, hc0, hc, ho, E1⟩
 obtain ⟨g1, g2, -⟩ := good_conf hc0
 have hgc : chkC c = 0 ∧ ConfFit c := by subst hc; exact ⟨meshC_right _ g2, meshC_fit _ (chk_R g2) g1⟩
 have hpo : 0 < c.S.length := by rw [hc]; exact (mesh_pos hc0 _).1
 clear hc0 hc g1 g2 HME
 have hth := OwnC.there (Z := #[.slice none 0 0, .slice none 0 0, .slice none 0 0, .slice none 0 0, .int .i64 0, .int .i64 0, .int .i64 0, .int .i64 0, .int .i64 0, .int .i64 0, .int .i64 0, .int .i64 0, .int .i64 0, .int .i64 0, .int .i64 0, .int .i64 0, .int .i64 0, .int .i64 0, .int .i64 0, .int .i64 0]) rfl W1
 go_upto_region 2 with (refine wpList_store_mid rfl 30 (.tmp 9) (.tmp 17) rfl W1.heap.size 0 (encC c).toArray rfl rfl hth Tryz.confSize (all_oneCell_toArray (encC_oneG ho)) ?_)
 obtain ⟨h2, E2⟩ := OwnC.store (Z := #[.slice none 0 0, .slice none 0 0, .slice none 0 0, .slice none 0 0, .int .i64 0, .int .i64 0, .int .i64 0, .int .i64 0, .int .i64 0, .int .i64 0, .int .i64 0, .int .i64 0, .int .i64 0, .int .i64 0, .int .i64 0, .int .i64 0, .int .i64 0, .int .i64 0, .int .i64 0, .int .i64 0]) rfl ho
 show Code.wp _ _ _ _ ((W1.alloc (.cells #[.slice none 0 0, .slice none 0 0, .slice none 0 0, .slice none 0 0, .int .i64 0, .int .i64 0, .int .i64 0, .int .i64 0, .int .i64 0, .int .i64 0, .int .i64 0, .int .i64 0, .int .i64 0, .int .i64 0, .int .i64 0, .int .i64 0, .int .i64 0, .int .i64 0, .int .i64 0, .int .i64 0] 30)).setCells W1.heap.size 0 (encC c))
 generalize (W1.alloc (.cells #[.slice none 0 0, .slice none 0 0, .slice none 0 0, .slice none 0 0, .int .i64 0, .int .i64 0, .int .i64 0, .int .i64 0, .int .i64 0, .int .i64 0, .int .i64 0, .int .i64 0, .int .i64 0, .int .i64 0, .int .i64 0, .int .i64 0, .int .i64 0, .int .i64 0, .int .i64 0, .int .i64 0] 30)).setCells W1.heap.size 0 (encC c) = W2 at h2 E2 ⊢
 obtain ⟨b1, hb1⟩ : ∃ b, W1.heap.size = b := ⟨_, rfl⟩
 rw [hb1] at h2 ⊢
 have HX2 := hide (E1.trans E2)
 have HG := hide (h2.gc (HM.out.ext HX2.out) hgc.1 hgc.2)
 have HBX := hide (fun X (hX : Ext W2 X) => h2.box.ext hX)
 have HPO := hide hpo
 have hlead := chk_lead hgc.1
 have HLD := hide hlead
 have HSL := hide (chk_S hgc.1)
 obtain ⟨_, sa, sc, hsv⟩ := h2.own.ok.1.shape
 have hsvc : ∀ X, Ext W2 X → X.cell? ⟨b1, 0, none⟩ = some (.slice sa c.S.length sc) := fun X hX => (h2.box.ext hX).cell 0 _ (by show some c.sv = _; rw [hsv])
 have hss := h2.own.ok.1
 rw [hsv] at hss
 have HSV0 := hide hsvc
 have HSS := hide hss
 clear h2 E1 E2 ho hth hgc hb1 hlead hsv hsvc hss hpo
 go_wp2_with fail
 go_loopw [10] (fun v10 wr => ∃ i : Nat, i ≤ c.S.length ∧ v10 = .int .i64 i ∧ (∀ s ∈ c.S.take i, withinB c s.id = false) ∧ Ext W2 wr) (fun i _ => c.S.length - (intOf i).toNat)
 case atStart => exact ⟨0, Nat.zero_le _, rfl, fun s hs => by simp at hs, Below.refl _ _⟩
 case round =>
  obtain ⟨i, hi, rfl, hno, hext⟩ := hrel
  have HE := hide hext
  have HNO := hide hno
  have hz := HSV0.out wr hext
  clear hext hno
  by_cases hlt : i < c.S.length
  ·have hltz : (i : Int) < c.S.length := by omega
   have hwi : IntKind.i64.wrap ((i : Int) + 1) = ((i + 1 : Nat) : Int) := by have := HSL.out; rw [IntKind.wrap_i64]; omega
   obtain ⟨gs, so, rfl, -, hrg⟩ := svcs_row HSS.out i hlt
   have hid := hrg 0 (.int .i64 c.S[i].id) rfl
   rw [Nat.add_zero] at hid
   have hnx : withinB c c.S[i].id = false → ∀ s ∈ c.S.take (i + 1), withinB c s.id = false := fun h s hs => by
    rw [take_snoc c.S i hlt] at hs
    rcases List.mem_append.1 hs with hs | hs
    ·exact HNO.out s hs
    ·rw [List.mem_singleton.1 hs]
     exact h
   generalize c.S[i].id = x at hid hnx
   have hwi2 := fun X (hX : Ext W2 X) => rwithin_any33 c x X (HG.out.ext hX)
   generalize withinB c x = tb at hnx hwi2
   have HNX := hide hnx
   have HWI := hide hwi2
   have HID := hide (fun X (hX : Ext W2 X) => cell_ext hX hid)
   have HSV := hide HSV0.out
   clear hnx hwi2 hid hrg
   go_upto_region 5 with (fail)
   refine wp_region_ro 69 [11, 25, 26, 27, 28, 29, 30, 31, 32] (fun w' => Ext wr w') (fun (t : Nat) (wI : World) (v : Value) => match t with | 11 => v = (.bool tb) | 25 => v = (.agg (encC c).toArray) | 26 => v = (.pointer (some ⟨b1, 0, none⟩)) | 27 => v = (.slice (some ⟨gs, so, none⟩) c.S.length sc) | 28 => v = (.int .i64 (i : Int)) | 29 => v = (.pointer (some ⟨gs, so + i * 7, none⟩)) | 30 => v = (.pointer (some ⟨gs, so + i * 7, none⟩)) | 31 => v = (.int .i64 x) | 32 => v = (.bool tb) | _ => True) (by kernel_rfl) rfl (by kernel_rfl) (by kernel_rfl) (by kernel_rfl) ?_ ?_ ?_ ?_ ?_
   ·intro t w' w'' v hR hv
    exact hv
   ·intro w' w'' h e
    exact Ext.trans (show Ext _ w' from h) e
   ·exact (Below.refl _ _).drew
   ·intro i o ho X w' hph hI hF K hK
    have hin : i < 9 := (Array.getElem?_eq_some_iff.1 ho).1
    have hi : i = 0 ∨ i = 1 ∨ i = 2 ∨ i = 3 ∨ i = 4 ∨ i = 5 ∨ i = 6 ∨ i = 7 ∨ i = 8 := by omega
    rcases hi with rfl | rfl | rfl | rfl | rfl | rfl | rfl | rfl | rfl
    ·obtain rfl := Option.some.inj ho
     have e9 : X 9 = (.pointer (some ⟨b1, 0, none⟩)) := hF 9 (by kernel_rfl)
     have hx : Ext W2 w' := HE.out.trans hph
     unfold wpOp
     simp only [ho]
     rw [if_pos (by rfl)]
     left
     rw [frame69]
     refine wp_load_mid 30 (.tmp 9) rfl b1 0 e9 (encC c) cd (BoxC.range (HBX.out w' hx)) hcd1 hcd2 Tryz.confSize (metK (hK.out (.agg (encC c).toArray) _ (Below.refl _ _) (fun d hd => by cases hd; exact rfl)) ?_)
     simp [frame69, Act.put, *]
    ·obtain rfl := Option.some.inj ho
     have e9 : X 9 = (.pointer (some ⟨b1, 0, none⟩)) := hF 9 (by kernel_rfl)
     unfold wpOp
     simp only [ho]
     rw [if_pos (by rfl)]
     left
     rw [frame69]
     go_simp
     refine metK (hK.out ((.pointer (some ⟨b1, 0, none⟩))) _ (Below.refl _ _) (fun d hd => by cases hd; exact rfl)) ?_
     simp [frame69, Act.put, *]
    ·obtain rfl := Option.some.inj ho
     have e26 : X 26 = _ := hI 26 (by kernel_rfl)
     have hx : Ext W2 w' := HE.out.trans hph
     have q := HSV.out w' hx
     unfold wpOp
     simp only [ho]
     rw [if_pos (by rfl)]
     left
     rw [frame69]
     go_simp
     refine metK (hK.out ((.slice (some ⟨gs, so, none⟩) c.S.length sc)) _ (Below.refl _ _) (fun d hd => by cases hd; exact rfl)) ?_
     simp [frame69, Act.put, *]
    ·obtain rfl := Option.some.inj ho
     have e10 : X 10 = (.int .i64 (i : Int)) := hF 10 (by kernel_rfl)
     unfold wpOp
     simp only [ho]
     rw [if_pos (by rfl)]
     left
     rw [frame69]
     go_simp
     refine metK (hK.out ((.int .i64 (i : Int))) _ (Below.refl _ _) (fun d hd => by cases hd; exact rfl)) ?_
     simp [frame69, Act.put, *]
    ·obtain rfl := Option.some.inj ho
     have e27 : X 27 = _ := hI 27 (by kernel_rfl)
     have e28 : X 28 = _ := hI 28 (by kernel_rfl)
     unfold wpOp
     simp only [ho]
     rw [if_pos (by rfl)]
     left
     rw [frame69]
     go_simp
     refine metK (hK.out ((.pointer (some ⟨gs, so + i * 7, none⟩))) _ (Below.refl _ _) (fun d hd => by cases hd; exact rfl)) ?_
     simp [frame69, Act.put, *]
    ·obtain rfl := Option.some.inj ho
     have e29 : X 29 = _ := hI 29 (by kernel_rfl)
     unfold wpOp
     simp only [ho]
     rw [if_pos (by rfl)]
     left
     rw [frame69]
     go_simp
     refine metK (hK.out ((.pointer (some ⟨gs, so + i * 7, none⟩))) _ (Below.refl _ _) (fun d hd => by cases hd; exact rfl)) ?_
     simp [frame69, Act.put, *]
    ·obtain rfl := Option.some.inj ho
     have e30 : X 30 = _ := hI 30 (by kernel_rfl)
     have hx : Ext W2 w' := HE.out.trans hph
     have q := HID.out w' hx
     unfold wpOp
     simp only [ho]
     rw [if_pos (by rfl)]
     left
     rw [frame69]
     go_simp
     refine metK (hK.out ((.int .i64 x)) _ (Below.refl _ _) (fun d hd => by cases hd; exact rfl)) ?_
     simp [frame69, Act.put, *]
    ·obtain rfl := Option.some.inj ho
     have e25 : X 25 = _ := hI 25 (by kernel_rfl)
     have e31 : X 31 = _ := hI 31 (by kernel_rfl)
     have hx : Ext W2 w' := HE.out.trans hph
     unfold wpOp
     simp only [ho]
     rw [if_pos (by rfl)]
     left
     rw [frame69]
     go_simp
     refine (HWI.out w' hx).mono ?_
     rintro e w9 ⟨rfl, E9⟩
     refine metK (hK.out (.bool tb) w9 E9 (fun d hd => by cases hd; exact rfl)) ?_
     simp [frame69, Act.put, *]
    ·obtain rfl := Option.some.inj ho
     have e32 : X 32 = _ := hI 32 (by kernel_rfl)
     unfold wpOp
     simp only [ho]
     rw [if_pos (by rfl)]
     left
     rw [frame69]
     go_simp
     refine metK (hK.out ((.bool tb)) _ (Below.refl _ _) (fun d hd => by cases hd; exact rfl)) ?_
     simp [frame69, Act.put, *]
   ·intro X w' hph hI
    have e11 : X 11 = _ := hI 11 (by kernel_rfl)
    have e25 : X 25 = _ := hI 25 (by kernel_rfl)
    have e26 : X 26 = _ := hI 26 (by kernel_rfl)
    have e27 : X 27 = _ := hI 27 (by kernel_rfl)
    have e28 : X 28 = _ := hI 28 (by kernel_rfl)
    have e29 : X 29 = _ := hI 29 (by kernel_rfl)
    have e30 : X 30 = _ := hI 30 (by kernel_rfl)
    have e31 : X 31 = _ := hI 31 (by kernel_rfl)
    have e32 : X 32 = _ := hI 32 (by kernel_rfl)
    clear hI
    simp only [overF, List.foldl_cons, List.foldl_nil, List.setIfInBounds_toArray, List.set_cons_succ, List.set_cons_zero, e11, e25, e26, e27, e28, e29, e30, e31, e32]
    have hx9 : Ext wr w' := hph
    have HE9 := hide (HE.out.trans hx9)
    clear hph hx9 e25 e26 e27 e28 e29 e30 e31 e32
    generalize w' = W9 at *
    cases tb with
    | true =>
     go_wp2_with fail
     refine (lives33_any W9 (HM.out.ext (HX2.out.trans HE9.out))).mono ?_
     rintro e w9 ⟨rfl, E9⟩
     have HZ := hide (HX2.out.trans (HE9.out.trans E9))
     clear E9
     go_wp2_with fail
     go_ret
     exact ⟨rfl, HZ.out⟩
    | false =>
     go_wp2
     go_roundw
     case rel => exact ⟨i + 1, hlt, by go_num, HNX.out rfl, HE9.out⟩
     case measure => simp [intOf] <;> omega
  ·obtain rfl : i = c.S.length := by omega
   have hltz : ¬ (c.S.length : Int) < c.S.length := by omega
   rw [List.take_length] at HNO
   have hcn := fun (e : Nat) (he : c.S.length ≤ e) => circles_none HLD.out HNO.out HPO.out b he a
   have h1 := fun X (hX : Ext W2 X) => gwalks_any c a b c.S.length X (HG.out.ext hX) HAB.out.1 HAB.out.2 (by have := HSL.out; omega)
   have h2 := fun X (hX : Ext W2 X) => gwalks_any c a b (c.S.length + 1) X (HG.out.ext hX) HAB.out.1 HAB.out.2 (by have := HSL.out; omega)
   have h3 := fun X (hX : Ext W2 X) => gwalks_any c a b 200 X (HG.out.ext hX) HAB.out.1 HAB.out.2 (by omega)
   simp only [hcn (c.S.length + 1) (by omega)] at h2
   simp only [hcn 200 (by have := HSL.out; omega)] at h3
   have h4 := fun X (hX : Ext W2 X) => lives33_any X (HM.out.ext (HX2.out.trans hX))
   generalize lvl (kidsG c) b c.S.length a = z at h1 h2 h3
   have h30 : ∀ X, Ext W2 X → Calls Tryz.prog 17 #[.agg (encC c).toArray, .int .i64 a, .int .i64 b, .int .i64 200] X fun e w' => e = .returned (.int .i64 z) ∧ Ext X w' := h3
   have HW1 := hide h1
   have HW2 := hide h2
   have HW3 := hide h30
   have HLV := hide h4
   have hwn : IntKind.i64.wrap ((c.S.length : Int) + 1) = ((c.S.length + 1 : Nat) : Int) := by have := HSL.out; rw [IntKind.wrap_i64]; omega
   clear h1 h2 h3 h30 h4 hcn
   go_wp2_with fail
   refine (HA1.out wr).mono ?_
   rintro e X1 ⟨rfl, rfl⟩
   go_wp2_with fail
   refine (HA2.out wr).mono ?_
   rintro e X2 ⟨rfl, rfl⟩
   go_upto_region 11 with (fail)
   refine wp_region_ro 69 [8, 42, 43, 44, 45, 46, 47, 48, 49, 50, 51, 52, 53, 54, 55, 56, 57, 58, 59, 60, 61, 62, 63, 64, 65, 66, 67, 68] (fun w' => Ext wr w') (fun (t : Nat) (wI : World) (v : Value) => match t with | 8 => v = (.bool true) | 42 => v = (.agg (encC c).toArray) | 43 => v = (.int .i64 a) | 44 => v = (.int .i64 b) | 45 => v = (.int .i64 (c.S.length : Int)) | 46 => v = (.int .i64 z) | 47 => v = (.agg (encC c).toArray) | 48 => v = (.int .i64 a) | 49 => v = (.int .i64 b) | 50 => v = (.int .i64 (c.S.length : Int)) | 51 => v = (.int .i64 ((c.S.length + 1 : Nat) : Int)) | 52 => v = (.int .i64 z) | 53 => v = (.bool true) | 54 => v = (.bool true) | 55 => v = (.agg (encC c).toArray) | 56 => v = (.int .i64 a) | 57 => v = (.int .i64 b) | 58 => v = (.int .i64 (c.S.length : Int)) | 59 => v = (.int .i64 z) | 60 => v = (.agg (encC c).toArray) | 61 => v = (.int .i64 a) | 62 => v = (.int .i64 b) | 63 => v = (.int .i64 z) | 64 => v = (.bool true) | 65 => v = (.bool true) | 66 => v = (.bool true) | 67 => v = (.bool true) | 68 => v = (.bool true) | _ => True) (by kernel_rfl) rfl (by kernel_rfl) (by kernel_rfl) (by kernel_rfl) ?_ ?_ ?_ ?_ ?_
   ·intro t w' w'' v hR hv
    exact hv
   ·intro w' w'' h e
    exact Ext.trans (show Ext _ w' from h) e
   ·exact (Below.refl _ _).drew
   ·intro i o ho X w' hph hI hF K hK
    have hin : i < 28 := (Array.getElem?_eq_some_iff.1 ho).1
    have hi : i = 0 ∨ i = 1 ∨ i = 2 ∨ i = 3 ∨ i = 4 ∨ i = 5 ∨ i = 6 ∨ i = 7 ∨ i = 8 ∨ i = 9 ∨ i = 10 ∨ i = 11 ∨ i = 12 ∨ i = 13 ∨ i = 14 ∨ i = 15 ∨ i = 16 ∨ i = 17 ∨ i = 18 ∨ i = 19 ∨ i = 20 ∨ i = 21 ∨ i = 22 ∨ i = 23 ∨ i = 24 ∨ i = 25 ∨ i = 26 ∨ i = 27 := by omega
    rcases hi with rfl | rfl | rfl | rfl | rfl | rfl | rfl | rfl | rfl | rfl | rfl | rfl | rfl | rfl | rfl | rfl | rfl | rfl | rfl | rfl | rfl | rfl | rfl | rfl | rfl | rfl | rfl | rfl
    ·obtain rfl := Option.some.inj ho
     have e9 : X 9 = (.pointer (some ⟨b1, 0, none⟩)) := hF 9 (by kernel_rfl)
     have hx : Ext W2 w' := HE.out.trans hph
     unfold wpOp
     simp only [ho]
     rw [if_pos (by rfl)]
     left
     rw [frame69]
     refine wp_load_mid 30 (.tmp 9) rfl b1 0 e9 (encC c) cd (BoxC.range (HBX.out w' hx)) hcd1 hcd2 Tryz.confSize (metK (hK.out (.agg (encC c).toArray) _ (Below.refl _ _) (fun d hd => by cases hd; exact rfl)) ?_)
     simp [frame69, Act.put, *]
    ·obtain rfl := Option.some.inj ho
     have e12 : X 12 = (.int .i64 a) := hF 12 (by kernel_rfl)
     unfold wpOp
     simp only [ho]
     rw [if_pos (by rfl)]
     left
     rw [frame69]
     go_simp
     refine metK (hK.out ((.int .i64 a)) _ (Below.refl _ _) (fun d hd => by cases hd; exact rfl)) ?_
     simp [frame69, Act.put, *]
    ·obtain rfl := Option.some.inj ho
     have e13 : X 13 = (.int .i64 b) := hF 13 (by kernel_rfl)
     unfold wpOp
     simp only [ho]
     rw [if_pos (by rfl)]
     left
     rw [frame69]
     go_simp
     refine metK (hK.out ((.int .i64 b)) _ (Below.refl _ _) (fun d hd => by cases hd; exact rfl)) ?_
     simp [frame69, Act.put, *]
    ·obtain rfl := Option.some.inj ho
     have e14 : X 14 = (.int .i64 (c.S.length : Int)) := hF 14 (by kernel_rfl)
     unfold wpOp
     simp only [ho]
     rw [if_pos (by rfl)]
     left
     rw [frame69]
     go_simp
     refine metK (hK.out ((.int .i64 (c.S.length : Int))) _ (Below.refl _ _) (fun d hd => by cases hd; exact rfl)) ?_
     simp [frame69, Act.put, *]
    ·obtain rfl := Option.some.inj ho
     have e42 : X 42 = _ := hI 42 (by kernel_rfl)
     have e43 : X 43 = _ := hI 43 (by kernel_rfl)
     have e44 : X 44 = _ := hI 44 (by kernel_rfl)
     have e45 : X 45 = _ := hI 45 (by kernel_rfl)
     have hx : Ext W2 w' := HE.out.trans hph
     unfold wpOp
     simp only [ho]
     rw [if_pos (by rfl)]
     left
     rw [frame69]
     go_simp
     refine (HW1.out w' hx).mono ?_
     rintro e w9 ⟨rfl, E9⟩
     refine metK (hK.out (.int .i64 z) w9 E9 (fun d hd => by cases hd; exact rfl)) ?_
     simp [frame69, Act.put, *]
    ·obtain rfl := Option.some.inj ho
     have e9 : X 9 = (.pointer (some ⟨b1, 0, none⟩)) := hF 9 (by kernel_rfl)
     have hx : Ext W2 w' := HE.out.trans hph
     unfold wpOp
     simp only [ho]
     rw [if_pos (by rfl)]
     left
     rw [frame69]
     refine wp_load_mid 30 (.tmp 9) rfl b1 0 e9 (encC c) cd (BoxC.range (HBX.out w' hx)) hcd1 hcd2 Tryz.confSize (metK (hK.out (.agg (encC c).toArray) _ (Below.refl _ _) (fun d hd => by cases hd; exact rfl)) ?_)
     simp [frame69, Act.put, *]
    ·obtain rfl := Option.some.inj ho
     have e12 : X 12 = (.int .i64 a) := hF 12 (by kernel_rfl)
     unfold wpOp
     simp only [ho]
     rw [if_pos (by rfl)]
     left
     rw [frame69]
     go_simp
     refine metK (hK.out ((.int .i64 a)) _ (Below.refl _ _) (fun d hd => by cases hd; exact rfl)) ?_
     simp [frame69, Act.put, *]
    ·obtain rfl := Option.some.inj ho
     have e13 : X 13 = (.int .i64 b) := hF 13 (by kernel_rfl)
     unfold wpOp
     simp only [ho]
     rw [if_pos (by rfl)]
     left
     rw [frame69]
     go_simp
     refine metK (hK.out ((.int .i64 b)) _ (Below.refl _ _) (fun d hd => by cases hd; exact rfl)) ?_
     simp [frame69, Act.put, *]
    ·obtain rfl := Option.some.inj ho
     have e14 : X 14 = (.int .i64 (c.S.length : Int)) := hF 14 (by kernel_rfl)
     unfold wpOp
     simp only [ho]
     rw [if_pos (by rfl)]
     left
     rw [frame69]
     go_simp
     refine metK (hK.out ((.int .i64 (c.S.length : Int))) _ (Below.refl _ _) (fun d hd => by cases hd; exact rfl)) ?_
     simp [frame69, Act.put, *]
    ·obtain rfl := Option.some.inj ho
     have e50 : X 50 = _ := hI 50 (by kernel_rfl)
     unfold wpOp
     simp only [ho]
     rw [if_pos (by rfl)]
     left
     rw [frame69]
     go_simp
     refine metK (hK.out ((.int .i64 ((c.S.length + 1 : Nat) : Int))) _ (Below.refl _ _) (fun d hd => by cases hd; exact rfl)) ?_
     simp [frame69, Act.put, *]
    ·obtain rfl := Option.some.inj ho
     have e47 : X 47 = _ := hI 47 (by kernel_rfl)
     have e48 : X 48 = _ := hI 48 (by kernel_rfl)
     have e49 : X 49 = _ := hI 49 (by kernel_rfl)
     have e51 : X 51 = _ := hI 51 (by kernel_rfl)
     have hx : Ext W2 w' := HE.out.trans hph
     unfold wpOp
     simp only [ho]
     rw [if_pos (by rfl)]
     left
     rw [frame69]
     go_simp
     refine (HW2.out w' hx).mono ?_
     rintro e w9 ⟨rfl, E9⟩
     refine metK (hK.out (.int .i64 z) w9 E9 (fun d hd => by cases hd; exact rfl)) ?_
     simp [frame69, Act.put, *]
    ·obtain rfl := Option.some.inj ho
     have e46 : X 46 = _ := hI 46 (by kernel_rfl)
     have e52 : X 52 = _ := hI 52 (by kernel_rfl)
     unfold wpOp
     simp only [ho]
     rw [if_pos (by rfl)]
     left
     rw [frame69]
     go_simp
     refine metK (hK.out ((.bool true)) _ (Below.refl _ _) (fun d hd => by cases hd; exact rfl)) ?_
     simp [frame69, Act.put, *]
    ·obtain rfl := Option.some.inj ho
     have e53 : X 53 = _ := hI 53 (by kernel_rfl)
     unfold wpOp
     simp only [ho]
     rw [if_pos (by rfl)]
     left
     rw [frame69]
     go_simp
     refine metK (hK.out ((.bool true)) _ (Below.refl _ _) (fun d hd => by cases hd; exact rfl)) ?_
     simp [frame69, Act.put, *]
    ·obtain rfl := Option.some.inj ho
     have e9 : X 9 = (.pointer (some ⟨b1, 0, none⟩)) := hF 9 (by kernel_rfl)
     have e54 : X 54 = _ := hI 54 (by kernel_rfl)
     have hx : Ext W2 w' := HE.out.trans hph
     unfold wpOp
     simp only [ho]
     rw [frame69]
     simp only [e54]
     rw [if_pos (by rfl)]
     left
     refine wp_load_mid 30 (.tmp 9) rfl b1 0 e9 (encC c) cd (BoxC.range (HBX.out w' hx)) hcd1 hcd2 Tryz.confSize (metK (hK.out (.agg (encC c).toArray) _ (Below.refl _ _) (fun d hd => by cases hd; exact rfl)) ?_)
     simp [frame69, Act.put, *]
    ·obtain rfl := Option.some.inj ho
     have e12 : X 12 = (.int .i64 a) := hF 12 (by kernel_rfl)
     have e54 : X 54 = _ := hI 54 (by kernel_rfl)
     unfold wpOp
     simp only [ho]
     rw [frame69]
     simp only [e54]
     rw [if_pos (by rfl)]
     left
     go_simp
     refine metK (hK.out ((.int .i64 a)) _ (Below.refl _ _) (fun d hd => by cases hd; exact rfl)) ?_
     simp [frame69, Act.put, *]
    ·obtain rfl := Option.some.inj ho
     have e13 : X 13 = (.int .i64 b) := hF 13 (by kernel_rfl)
     have e54 : X 54 = _ := hI 54 (by kernel_rfl)
     unfold wpOp
     simp only [ho]
     rw [frame69]
     simp only [e54]
     rw [if_pos (by rfl)]
     left
     go_simp
     refine metK (hK.out ((.int .i64 b)) _ (Below.refl _ _) (fun d hd => by cases hd; exact rfl)) ?_
     simp [frame69, Act.put, *]
    ·obtain rfl := Option.some.inj ho
     have e14 : X 14 = (.int .i64 (c.S.length : Int)) := hF 14 (by kernel_rfl)
     have e54 : X 54 = _ := hI 54 (by kernel_rfl)
     unfold wpOp
     simp only [ho]
     rw [frame69]
     simp only [e54]
     rw [if_pos (by rfl)]
     left
     go_simp
     refine metK (hK.out ((.int .i64 (c.S.length : Int))) _ (Below.refl _ _) (fun d hd => by cases hd; exact rfl)) ?_
     simp [frame69, Act.put, *]
    ·obtain rfl := Option.some.inj ho
     have e54 : X 54 = _ := hI 54 (by kernel_rfl)
     have e55 : X 55 = _ := hI 55 (by kernel_rfl)
     have e56 : X 56 = _ := hI 56 (by kernel_rfl)
     have e57 : X 57 = _ := hI 57 (by kernel_rfl)
     have e58 : X 58 = _ := hI 58 (by kernel_rfl)
     have hx : Ext W2 w' := HE.out.trans hph
     unfold wpOp
     simp only [ho]
     rw [frame69]
     simp only [e54]
     rw [if_pos (by rfl)]
     left
     go_simp
     refine (HW1.out w' hx).mono ?_
     rintro e w9 ⟨rfl, E9⟩
     refine metK (hK.out (.int .i64 z) w9 E9 (fun d hd => by cases hd; exact rfl)) ?_
     simp [frame69, Act.put, *]
    ·obtain rfl := Option.some.inj ho
     have e9 : X 9 = (.pointer (some ⟨b1, 0, none⟩)) := hF 9 (by kernel_rfl)
     have e54 : X 54 = _ := hI 54 (by kernel_rfl)
     have hx : Ext W2 w' := HE.out.trans hph
     unfold wpOp
     simp only [ho]
     rw [frame69]
     simp only [e54]
     rw [if_pos (by rfl)]
     left
     refine wp_load_mid 30 (.tmp 9) rfl b1 0 e9 (encC c) cd (BoxC.range (HBX.out w' hx)) hcd1 hcd2 Tryz.confSize (metK (hK.out (.agg (encC c).toArray) _ (Below.refl _ _) (fun d hd => by cases hd; exact rfl)) ?_)
     simp [frame69, Act.put, *]
    ·obtain rfl := Option.some.inj ho
     have e12 : X 12 = (.int .i64 a) := hF 12 (by kernel_rfl)
     have e54 : X 54 = _ := hI 54 (by kernel_rfl)
     unfold wpOp
     simp only [ho]
     rw [frame69]
     simp only [e54]
     rw [if_pos (by rfl)]
     left
     go_simp
     refine metK (hK.out ((.int .i64 a)) _ (Below.refl _ _) (fun d hd => by cases hd; exact rfl)) ?_
     simp [frame69, Act.put, *]
    ·obtain rfl := Option.some.inj ho
     have e13 : X 13 = (.int .i64 b) := hF 13 (by kernel_rfl)
     have e54 : X 54 = _ := hI 54 (by kernel_rfl)
     unfold wpOp
     simp only [ho]
     rw [frame69]
     simp only [e54]
     rw [if_pos (by rfl)]
     left
     go_simp
     refine metK (hK.out ((.int .i64 b)) _ (Below.refl _ _) (fun d hd => by cases hd; exact rfl)) ?_
     simp [frame69, Act.put, *]
    ·obtain rfl := Option.some.inj ho
     have e54 : X 54 = _ := hI 54 (by kernel_rfl)
     have e60 : X 60 = _ := hI 60 (by kernel_rfl)
     have e61 : X 61 = _ := hI 61 (by kernel_rfl)
     have e62 : X 62 = _ := hI 62 (by kernel_rfl)
     have hx : Ext W2 w' := HE.out.trans hph
     unfold wpOp
     simp only [ho]
     rw [frame69]
     simp only [e54]
     rw [if_pos (by rfl)]
     left
     go_simp
     refine (HW3.out w' hx).mono ?_
     rintro e w9 ⟨rfl, E9⟩
     refine metK (hK.out (.int .i64 z) w9 E9 (fun d hd => by cases hd; exact rfl)) ?_
     simp [frame69, Act.put, *]
    ·obtain rfl := Option.some.inj ho
     have e54 : X 54 = _ := hI 54 (by kernel_rfl)
     have e59 : X 59 = _ := hI 59 (by kernel_rfl)
     have e63 : X 63 = _ := hI 63 (by kernel_rfl)
     unfold wpOp
     simp only [ho]
     rw [frame69]
     simp only [e54]
     rw [if_pos (by rfl)]
     left
     go_simp
     refine metK (hK.out ((.bool true)) _ (Below.refl _ _) (fun d hd => by cases hd; exact rfl)) ?_
     simp [frame69, Act.put, *]
    ·obtain rfl := Option.some.inj ho
     have e54 : X 54 = _ := hI 54 (by kernel_rfl)
     have e64 : X 64 = _ := hI 64 (by kernel_rfl)
     unfold wpOp
     simp only [ho]
     rw [if_pos (by rfl)]
     left
     rw [frame69]
     go_simp
     refine metK (hK.out ((.bool true)) _ (Below.refl _ _) (fun d hd => by cases hd; exact rfl)) ?_
     simp [frame69, Act.put, *]
    ·obtain rfl := Option.some.inj ho
     have e65 : X 65 = _ := hI 65 (by kernel_rfl)
     unfold wpOp
     simp only [ho]
     rw [if_pos (by rfl)]
     left
     rw [frame69]
     go_simp
     refine metK (hK.out ((.bool true)) _ (Below.refl _ _) (fun d hd => by cases hd; exact rfl)) ?_
     simp [frame69, Act.put, *]
    ·obtain rfl := Option.some.inj ho
     have e66 : X 66 = _ := hI 66 (by kernel_rfl)
     have hx : Ext W2 w' := HE.out.trans hph
     unfold wpOp
     simp only [ho]
     rw [frame69]
     simp only [e66]
     rw [if_pos (by rfl)]
     left
     go_simp
     refine (HLV.out w' hx).mono ?_
     rintro e w9 ⟨rfl, E9⟩
     refine metK (hK.out (.bool true) w9 E9 (fun d hd => by cases hd; exact rfl)) ?_
     simp [frame69, Act.put, *]
    ·obtain rfl := Option.some.inj ho
     have e66 : X 66 = _ := hI 66 (by kernel_rfl)
     have e67 : X 67 = _ := hI 67 (by kernel_rfl)
     unfold wpOp
     simp only [ho]
     rw [if_pos (by rfl)]
     left
     rw [frame69]
     go_simp
     refine metK (hK.out ((.bool true)) _ (Below.refl _ _) (fun d hd => by cases hd; exact rfl)) ?_
     simp [frame69, Act.put, *]
    ·obtain rfl := Option.some.inj ho
     have e68 : X 68 = _ := hI 68 (by kernel_rfl)
     unfold wpOp
     simp only [ho]
     rw [if_pos (by rfl)]
     left
     rw [frame69]
     go_simp
     refine metK (hK.out ((.bool true)) _ (Below.refl _ _) (fun d hd => by cases hd; exact rfl)) ?_
     simp [frame69, Act.put, *]
   ·intro X w' hph hI
    have e8 : X 8 = _ := hI 8 (by kernel_rfl)
    have e42 : X 42 = _ := hI 42 (by kernel_rfl)
    have e43 : X 43 = _ := hI 43 (by kernel_rfl)
    have e44 : X 44 = _ := hI 44 (by kernel_rfl)
    have e45 : X 45 = _ := hI 45 (by kernel_rfl)
    have e46 : X 46 = _ := hI 46 (by kernel_rfl)
    have e47 : X 47 = _ := hI 47 (by kernel_rfl)
    have e48 : X 48 = _ := hI 48 (by kernel_rfl)
    have e49 : X 49 = _ := hI 49 (by kernel_rfl)
    have e50 : X 50 = _ := hI 50 (by kernel_rfl)
    have e51 : X 51 = _ := hI 51 (by kernel_rfl)
    have e52 : X 52 = _ := hI 52 (by kernel_rfl)
    have e53 : X 53 = _ := hI 53 (by kernel_rfl)
    have e54 : X 54 = _ := hI 54 (by kernel_rfl)
    have e55 : X 55 = _ := hI 55 (by kernel_rfl)
    have e56 : X 56 = _ := hI 56 (by kernel_rfl)
    have e57 : X 57 = _ := hI 57 (by kernel_rfl)
    have e58 : X 58 = _ := hI 58 (by kernel_rfl)
    have e59 : X 59 = _ := hI 59 (by kernel_rfl)
    have e60 : X 60 = _ := hI 60 (by kernel_rfl)
    have e61 : X 61 = _ := hI 61 (by kernel_rfl)
    have e62 : X 62 = _ := hI 62 (by kernel_rfl)
    have e63 : X 63 = _ := hI 63 (by kernel_rfl)
    have e64 : X 64 = _ := hI 64 (by kernel_rfl)
    have e65 : X 65 = _ := hI 65 (by kernel_rfl)
    have e66 : X 66 = _ := hI 66 (by kernel_rfl)
    have e67 : X 67 = _ := hI 67 (by kernel_rfl)
    have e68 : X 68 = _ := hI 68 (by kernel_rfl)
    clear hI
    simp only [overF, List.foldl_cons, List.foldl_nil, List.setIfInBounds_toArray, List.set_cons_succ, List.set_cons_zero, e8, e42, e43, e44, e45, e46, e47, e48, e49, e50, e51, e52, e53, e54, e55, e56, e57, e58, e59, e60, e61, e62, e63, e64, e65, e66, e67, e68]
    have hx9 : Ext wr w' := hph
    have HZ := hide (HX2.out.trans (HE.out.trans hx9))
    clear hph hx9 e8 e42 e43 e44 e45 e46 e47 e48 e49 e50 e51 e52 e53 e54 e55 e56 e57 e58 e59 e60 e61 e62 e63 e64 e65 e66 e67 e68
    generalize w' = W9 at *
    go_wp2
    go_ret
    exact ⟨rfl, HZ.out⟩
end Go.Proofs.YtceaeiaoanhlnaaGreatDoor
