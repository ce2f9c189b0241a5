import Derived.Test.YtceaeiaoanhlnaaGreatDoorGrE
import Derived.Test.YtceaeiaoanhlnaaGreatDoorGkV
import Derived.Test.YtceaeiaoanhlnaaGreatDoorZhr
namespace Go.Proofs.YtceaeiaoanhlnaaGreatDoor
open Go.ChangeShapes Go.WideShapes Go.ChangeAt Go.RowKit Go.Lib Go.Shelf Go.Maps
/-- a list and itself -/
theorem same_eq (l : List Int) {u v : Value} (w : World) (hx : Ints w u l) (hy : Ints w v l) : Calls Tryz.prog 13 #[u, v] w fun e w' => e = .returned (.bool true) ∧ Ext w w' := by
 have h := sameInts_any l l u v w hx hy
 rwa [show sameInts l l = true from decide_eq_true rfl] at h
set_option maxRecDepth 100000 in
theorem frame65 (x : Nat → Value) : frameOf 65 x = #[x 0, x 1, x 2, x 3, x 4, x 5, x 6, x 7, x 8, x 9, x 10, x 11, x 12, x 13, x 14, x 15, x 16, x 17, x 18, x 19, x 20, x 21, x 22, x 23, x 24, x 25, x 26, x 27, x 28, x 29, x 30, x 31, x 32, x 33, x 34, x 35, x 36, x 37, x 38, x 39, x 40, x 41, x 42, x 43, x 44, x 45, x 46, x 47, x 48, x 49, x 50, x 51, x 52, x 53, x 54, x 55, x 56, x 57, x 58, x 59, x 60, x 61, x 62, x 63, x 64] := rfl
set_option maxRecDepth 100000 in
set_option maxHeartbeats 16000000 in
theorem kidsl_any (L : List Int) (how id : Int) (v : Value) (w : World) (hm : MaxV w) (hs : Ints w v L) (hL : ∀ x ∈ L, I64 x) (hh : I64 how) (hid : I64 id) :
  Calls Tryz.prog 3 #[v, .int .i64 how, .int .i64 id] w fun e w' => e = .returned (.bool true) ∧ Ext w w' := by
 obtain ⟨cd, hcd1, hcd2⟩ := Tryz.confDesc
 have HM := hide hm
 have hA1 := fun X => around_any id 6 X hid (by decide)
 have hb1 := around_bd id 6 (by decide)
 generalize around id 6 = a at hA1 hb1
 have HA1 := hide hA1
 have HAB := hide (show I64 id ∧ I64 a from ⟨hid, by unfold I64; omega⟩)
 have HME := hide (mesh_any L how v w hs hL hh)
 clear hm hA1 hb1 hs hL
 go_enter Tryz.func3, Tryz.ntmps3
 go_wp2_with fail
 refine HME.out.mono ?_
 rintro e W1 ⟨c, c0, rfl, hc0, hc, ho, E1⟩
 obtain ⟨g1, g2, -⟩ := good_conf hc0
 have hgc : chkC c = 0 ∧ ConfFit c := by subst hc; exact ⟨meshC_right _ g2, meshC_fit _ (chk_R g2) g1⟩
 clear hc0 hc g1 g2 HME
 have hth := OwnC.there (Z := #[.slice none 0 0, .slice none 0 0, .slice none 0 0, .slice none 0 0, .int .i64 0, .int .i64 0, .int .i64 0, .int .i64 0, .int .i64 0, .int .i64 0, .int .i64 0, .int .i64 0, .int .i64 0, .int .i64 0, .int .i64 0, .int .i64 0, .int .i64 0, .int .i64 0, .int .i64 0, .int .i64 0]) rfl W1
 go_upto_region 2 with (refine wpList_store_mid rfl 30 (.tmp 7) (.tmp 15) rfl W1.heap.size 0 (encC c).toArray rfl rfl hth Tryz.confSize (all_oneCell_toArray (encC_oneG ho)) ?_)
 obtain ⟨h2, E2⟩ := OwnC.store (Z := #[.slice none 0 0, .slice none 0 0, .slice none 0 0, .slice none 0 0, .int .i64 0, .int .i64 0, .int .i64 0, .int .i64 0, .int .i64 0, .int .i64 0, .int .i64 0, .int .i64 0, .int .i64 0, .int .i64 0, .int .i64 0, .int .i64 0, .int .i64 0, .int .i64 0, .int .i64 0, .int .i64 0]) rfl ho
 show Code.wp _ _ _ _ ((W1.alloc (.cells #[.slice none 0 0, .slice none 0 0, .slice none 0 0, .slice none 0 0, .int .i64 0, .int .i64 0, .int .i64 0, .int .i64 0, .int .i64 0, .int .i64 0, .int .i64 0, .int .i64 0, .int .i64 0, .int .i64 0, .int .i64 0, .int .i64 0, .int .i64 0, .int .i64 0, .int .i64 0, .int .i64 0] 30)).setCells W1.heap.size 0 (encC c))
 generalize (W1.alloc (.cells #[.slice none 0 0, .slice none 0 0, .slice none 0 0, .slice none 0 0, .int .i64 0, .int .i64 0, .int .i64 0, .int .i64 0, .int .i64 0, .int .i64 0, .int .i64 0, .int .i64 0, .int .i64 0, .int .i64 0, .int .i64 0, .int .i64 0, .int .i64 0, .int .i64 0, .int .i64 0, .int .i64 0] 30)).setCells W1.heap.size 0 (encC c) = W2 at h2 E2 ⊢
 obtain ⟨b1, hb1⟩ : ∃ b, W1.heap.size = b := ⟨_, rfl⟩
 rw [hb1] at h2 ⊢
 have HX2 := hide (E1.trans E2)
 have HG := hide (h2.gc (HM.out.ext HX2.out) hgc.1 hgc.2)
 have HBX2 := hide (fun X (hX : Ext W2 X) => h2.box.ext hX)
 clear h2 E1 E2 ho hth hgc hb1
 go_wp2_with fail
 refine (HA1.out W2).mono ?_
 rintro e X1 ⟨rfl, rfl⟩
 go_upto_region 3 with (fail)
 have hxa : Ext W2 (W2.alloc (.cells #[.int .i64 id, .int .i64 a] 3)) := (Below.refl _ _).alloc (Nat.le_refl _) _
 have hli := ints_lit2 W2 id a
 show Code.wp _ _ _ _ (W2.alloc (.cells #[.int .i64 id, .int .i64 a] 3))
 generalize W2.alloc (.cells #[.int .i64 id, .int .i64 a] 3) = W3 at hxa hli ⊢
 obtain ⟨gi, hgi⟩ : ∃ g, W2.heap.size = g := ⟨_, rfl⟩
 rw [hgi] at hli ⊢
 have HX3 := hide (HX2.out.trans hxa)
 have HG3 := hide (HG.out.ext hxa)
 have HBX := hide (fun X (hX : Ext W3 X) => HBX2.out X (hxa.trans hX))
 have HLI := hide hli
 clear hxa hli hgi HBX2 HG HX2 HA1
 go_wp2_with fail
 go_loopw [9] (fun v9 wr => ∃ i : Nat, i ≤ 2 ∧ v9 = .int .i64 i ∧ Ext W3 wr) (fun i _ => 2 - (intOf i).toNat)
 case atStart => exact ⟨0, Nat.zero_le _, rfl, Below.refl _ _⟩
 case round =>
  obtain ⟨i, hi, rfl, hext⟩ := hrel
  have HE := hide hext
  clear hext
  by_cases hlt : i < 2
  ·have hltz : (i : Int) < 2 := by omega
   have hwi : IntKind.i64.wrap ((i : Int) + 1) = ((i + 1 : Nat) : Int) := by rw [IntKind.wrap_i64]; omega
   obtain ⟨x, hx, hxi⟩ : ∃ x, [id, a][i]? = some x ∧ I64 x := by
    rcases (by omega : i = 0 ∨ i = 1) with rfl | rfl
    ·exact ⟨id, rfl, HAB.out.1⟩
    ·exact ⟨a, rfl, HAB.out.2⟩
   obtain ⟨bq, oq, eq, -, hq⟩ := ints_row HLI.out i (by simp; omega)
   cases eq
   have hq' : W3.cell? ⟨gi, i, none⟩ = some (.int .i64 x) := by
    have e2 : [id, a][i]'(by simp; omega) = x := (List.getElem?_eq_some_iff.1 hx).2
    rw [e2, Nat.zero_add] at hq
    exact hq
   have HID := hide (fun X (hX : Ext W3 X) => cell_ext hX hq')
   obtain ⟨Ks, hKs⟩ : ∃ K, kidsG c x = K := ⟨_, rfl⟩
   have hk1 := fun X (hX : Ext W3 X) => kids_any c x X (HG3.out.ext hX)
   have hk2 := fun X (hX : Ext W3 X) => rkids_any c x X (HG3.out.ext hX)
   simp only [hKs] at hk1 hk2
   have HKL := hide (show Ks.length ≤ 1000 from by rw [← hKs, kidsG_eq, List.length_append, List.length_map]; have h1 := find_kids HG3.out.chk x; have h2 := lastG_len HG3.out.chk (findS c.S x).K; omega)
   have HKD := hide hk1
   have HRD := hide hk2
   clear hk1 hk2 hKs hq hq' hx
   go_upto_region 6 with (fail)
   refine wp_region_ro 65 [10, 24, 25, 26, 27, 28, 29] (fun w' => Ext W3 w' ∧ Ext wr w') (fun (t : Nat) (wI : World) (v : Value) => match t with | 10 => KidsV 0 wI v Ks | 24 => v = (.agg (encC c).toArray) | 25 => v = (.slice (some ⟨gi, 0, none⟩) 2 2) | 26 => v = (.int .i64 (i : Int)) | 27 => v = (.pointer (some ⟨gi, i, none⟩)) | 28 => v = (.int .i64 x) | 29 => KidsV 0 wI v Ks | _ => True) (by kernel_rfl) rfl (by kernel_rfl) (by kernel_rfl) (by kernel_rfl) ?_ ?_ ?_ ?_ ?_
   ·intro t w' w'' v hR hv
    split at hv <;> first | exact hv | (exact hv.ext hR)
   ·intro w' w'' h e
    exact ⟨h.1.trans e, h.2.trans e⟩
   ·exact ⟨HE.out.drew, (Below.refl _ _).drew⟩
   ·intro i o ho X w' hph hI hF K hK
    have hin : i < 7 := (Array.getElem?_eq_some_iff.1 ho).1
    have hi : i = 0 ∨ i = 1 ∨ i = 2 ∨ i = 3 ∨ i = 4 ∨ i = 5 ∨ i = 6 := by omega
    rcases hi with rfl | rfl | rfl | rfl | rfl | rfl | rfl
    ·obtain rfl := Option.some.inj ho
     have e7 : X 7 = (.pointer (some ⟨b1, 0, none⟩)) := hF 7 (by kernel_rfl)
     have hx : Ext W3 w' := hph.1
     unfold wpOp
     simp only [ho]
     rw [if_pos (by rfl)]
     left
     rw [frame65]
     refine wp_load_mid 30 (.tmp 7) rfl b1 0 e7 (encC c) cd (HBX.out w' hx).range hcd1 hcd2 Tryz.confSize (metK (hK.out (.agg (encC c).toArray) _ (Below.refl _ _) (fun d hd => by cases hd; exact rfl)) ?_)
     simp [frame65, Act.put, *]
    ·obtain rfl := Option.some.inj ho
     have e8 : X 8 = (.slice (some ⟨gi, 0, none⟩) 2 2) := hF 8 (by kernel_rfl)
     unfold wpOp
     simp only [ho]
     rw [if_pos (by rfl)]
     left
     rw [frame65]
     go_simp
     refine metK (hK.out ((.slice (some ⟨gi, 0, none⟩) 2 2)) _ (Below.refl _ _) (fun d hd => by cases hd; exact rfl)) ?_
     simp [frame65, Act.put, *]
    ·obtain rfl := Option.some.inj ho
     have e9 : X 9 = (.int .i64 (i : Int)) := hF 9 (by kernel_rfl)
     unfold wpOp
     simp only [ho]
     rw [if_pos (by rfl)]
     left
     rw [frame65]
     go_simp
     refine metK (hK.out ((.int .i64 (i : Int))) _ (Below.refl _ _) (fun d hd => by cases hd; exact rfl)) ?_
     simp [frame65, Act.put, *]
    ·obtain rfl := Option.some.inj ho
     have e25 : X 25 = _ := hI 25 (by kernel_rfl)
     have e26 : X 26 = _ := hI 26 (by kernel_rfl)
     unfold wpOp
     simp only [ho]
     rw [if_pos (by rfl)]
     left
     rw [frame65]
     go_simp
     refine metK (hK.out ((.pointer (some ⟨gi, i, none⟩))) _ (Below.refl _ _) (fun d hd => by cases hd; exact rfl)) ?_
     simp [frame65, Act.put, *]
    ·obtain rfl := Option.some.inj ho
     have e27 : X 27 = _ := hI 27 (by kernel_rfl)
     have hx : Ext W3 w' := hph.1
     have q := HID.out w' hx
     unfold wpOp
     simp only [ho]
     rw [if_pos (by rfl)]
     left
     rw [frame65]
     go_simp
     refine metK (hK.out ((.int .i64 x)) _ (Below.refl _ _) (fun d hd => by cases hd; exact rfl)) ?_
     simp [frame65, Act.put, *]
    ·obtain rfl := Option.some.inj ho
     have e24 : X 24 = _ := hI 24 (by kernel_rfl)
     have e28 : X 28 = _ := hI 28 (by kernel_rfl)
     have hx : Ext W3 w' := hph.1
     unfold wpOp
     simp only [ho]
     rw [if_pos (by rfl)]
     left
     rw [frame65]
     go_simp
     refine (HKD.out w' hx).mono ?_
     rintro e w9 ⟨u9, rfl, hk9, E9⟩
     refine metK (hK.out u9 w9 E9 (fun d hd => by cases hd; exact hk9.z)) ?_
     simp [frame65, Act.put, *]
    ·obtain rfl := Option.some.inj ho
     have y29 := hI 29 (by kernel_rfl)
     unfold wpOp
     simp only [ho]
     rw [if_pos (by rfl)]
     left
     rw [frame65]
     go_simp
     refine metK (hK.out (X 29) w' (Below.refl _ _) (fun d hd => by cases hd; exact y29)) ?_
     simp [frame65, Act.put, *]
   ·intro X w' hph hI
    have y10 := hI 10 (by kernel_rfl)
    have e24 : X 24 = _ := hI 24 (by kernel_rfl)
    have e25 : X 25 = _ := hI 25 (by kernel_rfl)
    have e26 : X 26 = _ := hI 26 (by kernel_rfl)
    have e27 : X 27 = _ := hI 27 (by kernel_rfl)
    have e28 : X 28 = _ := hI 28 (by kernel_rfl)
    have y29 := hI 29 (by kernel_rfl)
    clear hI
    simp only [overF, List.foldl_cons, List.foldl_nil, List.setIfInBounds_toArray, List.set_cons_succ, List.set_cons_zero, e24, e25, e26, e27, e28]
    have hx9 := hph
    obtain ⟨hx1, hx2⟩ := hx9
    have HK10 := hide y10
    have HE6 := hide hx1
    have HE6r := hide hx2
    clear hph hx1 hx2 e24 e25 e26 e27 e28 y29 y10
    generalize X 10 = v10 at *
    generalize X 29 = u29 at *
    generalize w' = W6 at *
    go_upto_region 7 with (fail)
    refine wp_region_ro 65 [11, 30, 31, 32, 33, 34, 35] (fun w' => Ext W3 w' ∧ Ext W6 w') (fun (t : Nat) (wI : World) (v : Value) => match t with | 11 => KidsV 0 wI v Ks | 30 => v = (.agg (encC c).toArray) | 31 => v = (.slice (some ⟨gi, 0, none⟩) 2 2) | 32 => v = (.int .i64 (i : Int)) | 33 => v = (.pointer (some ⟨gi, i, none⟩)) | 34 => v = (.int .i64 x) | 35 => KidsV 0 wI v Ks | _ => True) (by kernel_rfl) rfl (by kernel_rfl) (by kernel_rfl) (by kernel_rfl) ?_ ?_ ?_ ?_ ?_
    ·intro t w' w'' v hR hv
     split at hv <;> first | exact hv | (exact hv.ext hR)
    ·intro w' w'' h e
     exact ⟨h.1.trans e, h.2.trans e⟩
    ·exact ⟨HE6.out.drew, (Below.refl _ _).drew⟩
    ·intro i o ho X w' hph hI hF K hK
     have hin : i < 7 := (Array.getElem?_eq_some_iff.1 ho).1
     have hi : i = 0 ∨ i = 1 ∨ i = 2 ∨ i = 3 ∨ i = 4 ∨ i = 5 ∨ i = 6 := by omega
     rcases hi with rfl | rfl | rfl | rfl | rfl | rfl | rfl
     ·obtain rfl := Option.some.inj ho
      have e7 : X 7 = (.pointer (some ⟨b1, 0, none⟩)) := hF 7 (by kernel_rfl)
      have hx : Ext W3 w' := hph.1
      unfold wpOp
      simp only [ho]
      rw [if_pos (by rfl)]
      left
      rw [frame65]
      refine wp_load_mid 30 (.tmp 7) rfl b1 0 e7 (encC c) cd (HBX.out w' hx).range hcd1 hcd2 Tryz.confSize (metK (hK.out (.agg (encC c).toArray) _ (Below.refl _ _) (fun d hd => by cases hd; exact rfl)) ?_)
      simp [frame65, Act.put, *]
     ·obtain rfl := Option.some.inj ho
      have e8 : X 8 = (.slice (some ⟨gi, 0, none⟩) 2 2) := hF 8 (by kernel_rfl)
      unfold wpOp
      simp only [ho]
      rw [if_pos (by rfl)]
      left
      rw [frame65]
      go_simp
      refine metK (hK.out ((.slice (some ⟨gi, 0, none⟩) 2 2)) _ (Below.refl _ _) (fun d hd => by cases hd; exact rfl)) ?_
      simp [frame65, Act.put, *]
     ·obtain rfl := Option.some.inj ho
      have e9 : X 9 = (.int .i64 (i : Int)) := hF 9 (by kernel_rfl)
      unfold wpOp
      simp only [ho]
      rw [if_pos (by rfl)]
      left
      rw [frame65]
      go_simp
      refine metK (hK.out ((.int .i64 (i : Int))) _ (Below.refl _ _) (fun d hd => by cases hd; exact rfl)) ?_
      simp [frame65, Act.put, *]
     ·obtain rfl := Option.some.inj ho
      have e31 : X 31 = _ := hI 31 (by kernel_rfl)
      have e32 : X 32 = _ := hI 32 (by kernel_rfl)
      unfold wpOp
      simp only [ho]
      rw [if_pos (by rfl)]
      left
      rw [frame65]
      go_simp
      refine metK (hK.out ((.pointer (some ⟨gi, i, none⟩))) _ (Below.refl _ _) (fun d hd => by cases hd; exact rfl)) ?_
      simp [frame65, Act.put, *]
     ·obtain rfl := Option.some.inj ho
      have e33 : X 33 = _ := hI 33 (by kernel_rfl)
      have hx : Ext W3 w' := hph.1
      have q := HID.out w' hx
      unfold wpOp
      simp only [ho]
      rw [if_pos (by rfl)]
      left
      rw [frame65]
      go_simp
      refine metK (hK.out ((.int .i64 x)) _ (Below.refl _ _) (fun d hd => by cases hd; exact rfl)) ?_
      simp [frame65, Act.put, *]
     ·obtain rfl := Option.some.inj ho
      have e30 : X 30 = _ := hI 30 (by kernel_rfl)
      have e34 : X 34 = _ := hI 34 (by kernel_rfl)
      have hx : Ext W3 w' := hph.1
      unfold wpOp
      simp only [ho]
      rw [if_pos (by rfl)]
      left
      rw [frame65]
      go_simp
      refine (HRD.out w' hx).mono ?_
      rintro e w9 ⟨u9, rfl, hk9, E9⟩
      refine metK (hK.out u9 w9 E9 (fun d hd => by cases hd; exact hk9.z)) ?_
      simp [frame65, Act.put, *]
     ·obtain rfl := Option.some.inj ho
      have y35 := hI 35 (by kernel_rfl)
      unfold wpOp
      simp only [ho]
      rw [if_pos (by rfl)]
      left
      rw [frame65]
      go_simp
      refine metK (hK.out (X 35) w' (Below.refl _ _) (fun d hd => by cases hd; exact y35)) ?_
      simp [frame65, Act.put, *]
    ·intro X w' hph hI
     have y11 := hI 11 (by kernel_rfl)
     have e30 : X 30 = _ := hI 30 (by kernel_rfl)
     have e31 : X 31 = _ := hI 31 (by kernel_rfl)
     have e32 : X 32 = _ := hI 32 (by kernel_rfl)
     have e33 : X 33 = _ := hI 33 (by kernel_rfl)
     have e34 : X 34 = _ := hI 34 (by kernel_rfl)
     have y35 := hI 35 (by kernel_rfl)
     clear hI
     simp only [overF, List.foldl_cons, List.foldl_nil, List.setIfInBounds_toArray, List.set_cons_succ, List.set_cons_zero, e30, e31, e32, e33, e34]
     have hx9 := hph
     obtain ⟨hx1, hx2⟩ := hx9
     have HK11 := hide y11
     have HE7 := hide hx1
     have HK10b := hide (HK10.out.ext hx2)
     clear hph hx1 hx2 e30 e31 e32 e33 e34 y35 y11
     generalize X 11 = v11 at *
     generalize X 35 = u35 at *
     generalize w' = W7 at *
     obtain ⟨vs, hr1, hi1⟩ := HK10b.out
     obtain ⟨us, hr2, hi2⟩ := HK11.out
     obtain ⟨xa, xc, rfl⟩ := owns_shape hr1
     obtain ⟨ya, yc, rfl⟩ := owns_shape hr2
     have HR1 := hide hr1
     have HI1 := hide hi1
     have HR2 := hide hr2
     have HI2 := hide hi2
     clear hr1 hi1 hr2 hi2 HK10 HK10b HK11 HID HKD HRD HE6 HE6r
     go_wp2_with fail
     go_loopw [12] (fun v12 wr2 => ∃ k : Nat, k ≤ Ks.length ∧ v12 = .int .i64 k ∧ Ext W7 wr2) (fun k _ => Ks.length - (intOf k).toNat)
     case atStart => exact ⟨0, Nat.zero_le _, rfl, Below.refl _ _⟩
     case round =>
      obtain ⟨k, hk, rfl, hext⟩ := hrel
      have HEK := hide hext
      clear hext
      by_cases hltk : k < Ks.length
      ·have hltkz : (k : Int) < Ks.length := by omega
       have hwk : IntKind.i64.wrap ((k : Int) + 1) = ((k + 1 : Nat) : Int) := by have := HKL.out; rw [IntKind.wrap_i64]; omega
       obtain ⟨gx, cap1, hgv, -⟩ := owns_block HR1.out (by omega)
       injection hgv with h1 h2 h3
       subst h1
       obtain ⟨gy, cap2, hgw, -⟩ := owns_block HR2.out (by omega)
       injection hgw with h4 h5 h6
       subst h4
       obtain ⟨rv, hrv, hri⟩ := HI1.out.at k hltk
       obtain ⟨ru, hru, hrj⟩ := HI2.out.at k hltk
       have hc1 := HR1.out.cells (g := gx) rfl k rv hrv
       have hc2 := HR2.out.cells (g := gy) rfl k ru hru
       rw [add_cell] at hc1 hc2
       generalize Ks[k] = l at hri hrj
       obtain ⟨hll, ra, rc, rfl⟩ := hri.shape
       obtain ⟨-, sa, sc, rfl⟩ := hrj.shape
       have HRI := hide (fun X (hX : Ext W7 X) => hri.ext hX)
       have HRJ := hide (fun X (hX : Ext W7 X) => hrj.ext hX)
       have HC1 := hide (fun X (hX : Ext W7 X) => cell_ext hX hc1)
       have HC2 := hide (fun X (hX : Ext W7 X) => cell_ext hX hc2)
       have HE8 := hide (HE7.out.trans HEK.out)
       clear hri hrj hc1 hc2 hll hrv hru h2 h3 h5 h6
       go_upto_region 13 with (fail)
       refine wp_region_ro 65 [47, 48, 49, 50, 51, 52, 53, 54, 55, 56] (fun w' => Ext W7 w') (fun (t : Nat) (wI : World) (v : Value) => match t with | 47 => v = (.slice (some ⟨gx, 0, none⟩) Ks.length xc) | 48 => v = (.int .i64 (k : Int)) | 49 => v = (.pointer (some ⟨gx, k, none⟩)) | 50 => v = (.slice ra l.length rc) | 51 => v = (.slice (some ⟨gy, 0, none⟩) Ks.length yc) | 52 => v = (.int .i64 (k : Int)) | 53 => v = (.pointer (some ⟨gy, k, none⟩)) | 54 => v = (.slice sa l.length sc) | 55 => v = (.bool true) | 56 => v = (.bool false) | _ => True) (by kernel_rfl) rfl (by kernel_rfl) (by kernel_rfl) (by kernel_rfl) ?_ ?_ ?_ ?_ ?_
       ·intro t w' w'' v hR hv
        exact hv
       ·intro w' w'' h e
        exact Ext.trans (show Ext _ w' from h) e
       ·exact HEK.out.drew
       ·intro i o ho X w' hph hI hF K hK
        have hin : i < 10 := (Array.getElem?_eq_some_iff.1 ho).1
        have hi : i = 0 ∨ i = 1 ∨ i = 2 ∨ i = 3 ∨ i = 4 ∨ i = 5 ∨ i = 6 ∨ i = 7 ∨ i = 8 ∨ i = 9 := by omega
        rcases hi with rfl | rfl | rfl | rfl | rfl | rfl | rfl | rfl | rfl | rfl
        ·obtain rfl := Option.some.inj ho
         have e10 : X 10 = (.slice (some ⟨gx, 0, none⟩) Ks.length xc) := hF 10 (by kernel_rfl)
         unfold wpOp
         simp only [ho]
         rw [if_pos (by rfl)]
         left
         rw [frame65]
         go_simp
         refine metK (hK.out ((.slice (some ⟨gx, 0, none⟩) Ks.length xc)) _ (Below.refl _ _) (fun d hd => by cases hd; exact rfl)) ?_
         simp [frame65, Act.put, *]
        ·obtain rfl := Option.some.inj ho
         have e12 : X 12 = (.int .i64 (k : Int)) := hF 12 (by kernel_rfl)
         unfold wpOp
         simp only [ho]
         rw [if_pos (by rfl)]
         left
         rw [frame65]
         go_simp
         refine metK (hK.out ((.int .i64 (k : Int))) _ (Below.refl _ _) (fun d hd => by cases hd; exact rfl)) ?_
         simp [frame65, Act.put, *]
        ·obtain rfl := Option.some.inj ho
         have e47 : X 47 = _ := hI 47 (by kernel_rfl)
         have e48 : X 48 = _ := hI 48 (by kernel_rfl)
         unfold wpOp
         simp only [ho]
         rw [if_pos (by rfl)]
         left
         rw [frame65]
         go_simp
         refine metK (hK.out ((.pointer (some ⟨gx, k, none⟩))) _ (Below.refl _ _) (fun d hd => by cases hd; exact rfl)) ?_
         simp [frame65, Act.put, *]
        ·obtain rfl := Option.some.inj ho
         have e49 : X 49 = _ := hI 49 (by kernel_rfl)
         have q := HC1.out w' hph
         unfold wpOp
         simp only [ho]
         rw [if_pos (by rfl)]
         left
         rw [frame65]
         go_simp
         refine metK (hK.out ((.slice ra l.length rc)) _ (Below.refl _ _) (fun d hd => by cases hd; exact rfl)) ?_
         simp [frame65, Act.put, *]
        ·obtain rfl := Option.some.inj ho
         have e11 : X 11 = (.slice (some ⟨gy, 0, none⟩) Ks.length yc) := hF 11 (by kernel_rfl)
         unfold wpOp
         simp only [ho]
         rw [if_pos (by rfl)]
         left
         rw [frame65]
         go_simp
         refine metK (hK.out ((.slice (some ⟨gy, 0, none⟩) Ks.length yc)) _ (Below.refl _ _) (fun d hd => by cases hd; exact rfl)) ?_
         simp [frame65, Act.put, *]
        ·obtain rfl := Option.some.inj ho
         have e12 : X 12 = (.int .i64 (k : Int)) := hF 12 (by kernel_rfl)
         unfold wpOp
         simp only [ho]
         rw [if_pos (by rfl)]
         left
         rw [frame65]
         go_simp
         refine metK (hK.out ((.int .i64 (k : Int))) _ (Below.refl _ _) (fun d hd => by cases hd; exact rfl)) ?_
         simp [frame65, Act.put, *]
        ·obtain rfl := Option.some.inj ho
         have e51 : X 51 = _ := hI 51 (by kernel_rfl)
         have e52 : X 52 = _ := hI 52 (by kernel_rfl)
         unfold wpOp
         simp only [ho]
         rw [if_pos (by rfl)]
         left
         rw [frame65]
         go_simp
         refine metK (hK.out ((.pointer (some ⟨gy, k, none⟩))) _ (Below.refl _ _) (fun d hd => by cases hd; exact rfl)) ?_
         simp [frame65, Act.put, *]
        ·obtain rfl := Option.some.inj ho
         have e53 : X 53 = _ := hI 53 (by kernel_rfl)
         have q := HC2.out w' hph
         unfold wpOp
         simp only [ho]
         rw [if_pos (by rfl)]
         left
         rw [frame65]
         go_simp
         refine metK (hK.out ((.slice sa l.length sc)) _ (Below.refl _ _) (fun d hd => by cases hd; exact rfl)) ?_
         simp [frame65, Act.put, *]
        ·obtain rfl := Option.some.inj ho
         have e50 : X 50 = _ := hI 50 (by kernel_rfl)
         have e54 : X 54 = _ := hI 54 (by kernel_rfl)
         have hx : Ext W7 w' := hph
         unfold wpOp
         simp only [ho]
         rw [if_pos (by rfl)]
         left
         rw [frame65]
         go_simp
         refine (same_eq l w' (HRI.out w' hx) (HRJ.out w' hx)).mono ?_
         rintro e w9 ⟨rfl, E9⟩
         refine metK (hK.out (.bool true) w9 E9 (fun d hd => by cases hd; exact rfl)) ?_
         simp [frame65, Act.put, *]
        ·obtain rfl := Option.some.inj ho
         have e55 : X 55 = _ := hI 55 (by kernel_rfl)
         unfold wpOp
         simp only [ho]
         rw [if_pos (by rfl)]
         left
         rw [frame65]
         go_simp
         refine metK (hK.out ((.bool false)) _ (Below.refl _ _) (fun d hd => by cases hd; exact rfl)) ?_
         simp [frame65, Act.put, *]
       ·intro X w' hph hI
        have e47 : X 47 = _ := hI 47 (by kernel_rfl)
        have e48 : X 48 = _ := hI 48 (by kernel_rfl)
        have e49 : X 49 = _ := hI 49 (by kernel_rfl)
        have e50 : X 50 = _ := hI 50 (by kernel_rfl)
        have e51 : X 51 = _ := hI 51 (by kernel_rfl)
        have e52 : X 52 = _ := hI 52 (by kernel_rfl)
        have e53 : X 53 = _ := hI 53 (by kernel_rfl)
        have e54 : X 54 = _ := hI 54 (by kernel_rfl)
        have e55 : X 55 = _ := hI 55 (by kernel_rfl)
        have e56 : X 56 = _ := hI 56 (by kernel_rfl)
        clear hI
        simp only [overF, List.foldl_cons, List.foldl_nil, List.setIfInBounds_toArray, List.set_cons_succ, List.set_cons_zero, e47, e48, e49, e50, e51, e52, e53, e54, e55, e56]
        have hx9 : Ext W7 w' := hph
        clear hph e47 e48 e49 e50 e51 e52 e53 e54 e55 e56
        have HZ := hide (HE7.out.trans hx9)
        have HE9 := hide hx9
        clear hx9
        generalize w' = W9 at *
        go_wp2
        go_roundw
        case rel => exact ⟨k + 1, hltk, by go_num, HE9.out⟩
        case measure => simp [intOf] <;> omega
      ·obtain rfl : k = Ks.length := by omega
       have hltkz : ¬ (Ks.length : Int) < Ks.length := by omega
       have HZ := hide (HE7.out.trans HEK.out)
       go_wp2
       go_roundw
       case rel => exact ⟨i + 1, hlt, by go_num, HZ.out⟩
       case measure => simp [intOf] <;> omega
  ·obtain rfl : i = 2 := by omega
   have hltz : ¬ ((2 : Nat) : Int) < 2 := by omega
   have hD := fun X (hX : Ext W3 X) => depth_any c X HG3.out.chk
   have hR := fun X (hX : Ext W3 X) => rdep_any c X HG3.out.chk
   have hLV := fun X (hX : Ext W3 X) => lives33_any X (HM.out.ext (HX3.out.trans hX))
   obtain ⟨z, hz⟩ : ∃ z : Int, ((depthC c : Nat) : Int) = z := ⟨_, rfl⟩
   simp only [hz] at hD hR
   have HDD := hide hD
   have HDR := hide hR
   have HLV := hide hLV
   clear hD hR hLV hz
   go_upto_region 15 with (fail)
   refine wp_region_ro 65 [6, 57, 58, 59, 60, 61, 62, 63, 64] (fun w' => Ext W3 w') (fun (t : Nat) (wI : World) (v : Value) => match t with | 6 => v = (.bool true) | 57 => v = (.agg (encC c).toArray) | 58 => v = (.int .i64 z) | 59 => v = (.agg (encC c).toArray) | 60 => v = (.int .i64 z) | 61 => v = (.bool true) | 62 => v = (.bool true) | 63 => v = (.bool true) | 64 => v = (.bool true) | _ => True) (by kernel_rfl) rfl (by kernel_rfl) (by kernel_rfl) (by kernel_rfl) ?_ ?_ ?_ ?_ ?_
   ·intro t w' w'' v hR hv
    exact hv
   ·intro w' w'' h e
    exact Ext.trans (show Ext _ w' from h) e
   ·exact HE.out.drew
   ·intro i o ho X w' hph hI hF K hK
    have hin : i < 9 := (Array.getElem?_eq_some_iff.1 ho).1
    have hi : i = 0 ∨ i = 1 ∨ i = 2 ∨ i = 3 ∨ i = 4 ∨ i = 5 ∨ i = 6 ∨ i = 7 ∨ i = 8 := by omega
    rcases hi with rfl | rfl | rfl | rfl | rfl | rfl | rfl | rfl | rfl
    ·obtain rfl := Option.some.inj ho
     have e7 : X 7 = (.pointer (some ⟨b1, 0, none⟩)) := hF 7 (by kernel_rfl)
     have hx : Ext W3 w' := hph
     unfold wpOp
     simp only [ho]
     rw [if_pos (by rfl)]
     left
     rw [frame65]
     refine wp_load_mid 30 (.tmp 7) rfl b1 0 e7 (encC c) cd (HBX.out w' hx).range hcd1 hcd2 Tryz.confSize (metK (hK.out (.agg (encC c).toArray) _ (Below.refl _ _) (fun d hd => by cases hd; exact rfl)) ?_)
     simp [frame65, Act.put, *]
    ·obtain rfl := Option.some.inj ho
     have e57 : X 57 = _ := hI 57 (by kernel_rfl)
     have hx : Ext W3 w' := hph
     unfold wpOp
     simp only [ho]
     rw [if_pos (by rfl)]
     left
     rw [frame65]
     go_simp
     refine (HDD.out w' hx).mono ?_
     rintro e w9 ⟨rfl, E9⟩
     refine metK (hK.out (.int .i64 z) w9 E9 (fun d hd => by cases hd; exact rfl)) ?_
     simp [frame65, Act.put, *]
    ·obtain rfl := Option.some.inj ho
     have e7 : X 7 = (.pointer (some ⟨b1, 0, none⟩)) := hF 7 (by kernel_rfl)
     have hx : Ext W3 w' := hph
     unfold wpOp
     simp only [ho]
     rw [if_pos (by rfl)]
     left
     rw [frame65]
     refine wp_load_mid 30 (.tmp 7) rfl b1 0 e7 (encC c) cd (HBX.out w' hx).range hcd1 hcd2 Tryz.confSize (metK (hK.out (.agg (encC c).toArray) _ (Below.refl _ _) (fun d hd => by cases hd; exact rfl)) ?_)
     simp [frame65, Act.put, *]
    ·obtain rfl := Option.some.inj ho
     have e59 : X 59 = _ := hI 59 (by kernel_rfl)
     have hx : Ext W3 w' := hph
     unfold wpOp
     simp only [ho]
     rw [if_pos (by rfl)]
     left
     rw [frame65]
     go_simp
     refine (HDR.out w' hx).mono ?_
     rintro e w9 ⟨rfl, E9⟩
     refine metK (hK.out (.int .i64 z) w9 E9 (fun d hd => by cases hd; exact rfl)) ?_
     simp [frame65, Act.put, *]
    ·obtain rfl := Option.some.inj ho
     have e58 : X 58 = _ := hI 58 (by kernel_rfl)
     have e60 : X 60 = _ := hI 60 (by kernel_rfl)
     unfold wpOp
     simp only [ho]
     rw [if_pos (by rfl)]
     left
     rw [frame65]
     go_simp
     refine metK (hK.out ((.bool true)) _ (Below.refl _ _) (fun d hd => by cases hd; exact rfl)) ?_
     simp [frame65, Act.put, *]
    ·obtain rfl := Option.some.inj ho
     have e61 : X 61 = _ := hI 61 (by kernel_rfl)
     unfold wpOp
     simp only [ho]
     rw [if_pos (by rfl)]
     left
     rw [frame65]
     go_simp
     refine metK (hK.out ((.bool true)) _ (Below.refl _ _) (fun d hd => by cases hd; exact rfl)) ?_
     simp [frame65, Act.put, *]
    ·obtain rfl := Option.some.inj ho
     have e62 : X 62 = _ := hI 62 (by kernel_rfl)
     have hx : Ext W3 w' := hph
     unfold wpOp
     simp only [ho]
     rw [frame65]
     simp only [e62]
     rw [if_pos (by rfl)]
     left
     go_simp
     refine (HLV.out w' hx).mono ?_
     rintro e w9 ⟨rfl, E9⟩
     refine metK (hK.out (.bool true) w9 E9 (fun d hd => by cases hd; exact rfl)) ?_
     simp [frame65, Act.put, *]
    ·obtain rfl := Option.some.inj ho
     have e62 : X 62 = _ := hI 62 (by kernel_rfl)
     have e63 : X 63 = _ := hI 63 (by kernel_rfl)
     unfold wpOp
     simp only [ho]
     rw [if_pos (by rfl)]
     left
     rw [frame65]
     go_simp
     refine metK (hK.out ((.bool true)) _ (Below.refl _ _) (fun d hd => by cases hd; exact rfl)) ?_
     simp [frame65, Act.put, *]
    ·obtain rfl := Option.some.inj ho
     have e64 : X 64 = _ := hI 64 (by kernel_rfl)
     unfold wpOp
     simp only [ho]
     rw [if_pos (by rfl)]
     left
     rw [frame65]
     go_simp
     refine metK (hK.out ((.bool true)) _ (Below.refl _ _) (fun d hd => by cases hd; exact rfl)) ?_
     simp [frame65, Act.put, *]
   ·intro X w' hph hI
    have e6 : X 6 = _ := hI 6 (by kernel_rfl)
    have e57 : X 57 = _ := hI 57 (by kernel_rfl)
    have e58 : X 58 = _ := hI 58 (by kernel_rfl)
    have e59 : X 59 = _ := hI 59 (by kernel_rfl)
    have e60 : X 60 = _ := hI 60 (by kernel_rfl)
    have e61 : X 61 = _ := hI 61 (by kernel_rfl)
    have e62 : X 62 = _ := hI 62 (by kernel_rfl)
    have e63 : X 63 = _ := hI 63 (by kernel_rfl)
    have e64 : X 64 = _ := hI 64 (by kernel_rfl)
    clear hI
    simp only [overF, List.foldl_cons, List.foldl_nil, List.setIfInBounds_toArray, List.set_cons_succ, List.set_cons_zero, e6, e57, e58, e59, e60, e61, e62, e63, e64]
    have hx9 : Ext W3 w' := hph
    have HZ := hide (HX3.out.trans hx9)
    clear hph hx9 e6 e57 e58 e59 e60 e61 e62 e63 e64
    generalize w' = W9 at *
    go_wp2
    go_ret
    exact ⟨rfl, HZ.out⟩
end Go.Proofs.YtceaeiaoanhlnaaGreatDoor
