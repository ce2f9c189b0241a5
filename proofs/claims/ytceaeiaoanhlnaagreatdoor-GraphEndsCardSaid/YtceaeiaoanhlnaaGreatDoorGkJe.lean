import Derived.Test.YtceaeiaoanhlnaaGreatDoorGkIe
namespace Go.Proofs.YtceaeiaoanhlnaaGreatDoor
open Go.ChangeShapes Go.WideShapes Go.ChangeAt Go.RowKit Go.Lib Go.Shelf Go.Maps
set_option maxRecDepth 100000 in
theorem frame51 (x : Nat → Value) : frameOf 51 x = #[x 0, x 1, x 2, x 3, x 4, x 5, x 6, x 7, x 8, x 9, x 10, x 11, x 12, x 13, x 14, x 15, x 16, x 17, x 18, x 19, x 20, x 21, x 22, x 23, x 24, x 25, x 26, x 27, x 28, x 29, x 30, x 31, x 32, x 33, x 34, x 35, x 36, x 37, x 38, x 39, x 40, x 41, x 42, x 43, x 44, x 45, x 46, x 47, x 48, x 49, x 50] := rfl
theorem wayC_len (c : ConfD) (ps : List ByteArray) : (wayC c ps).length ≤ (ps ++ allK c).length :=
 (way_spec (nbP c) (ps ++ allK c) _ ps _ 0 (WaySt.start _ ps) (fun p hp => List.mem_append_left _ hp) (fun a x hx => List.mem_append_right _ (nbP_all c a x hx)) (by omega)).len _ (fun p hp => List.mem_append_left _ hp) (fun a x hx => List.mem_append_right _ (nbP_all c a x hx))
/-- which services were seen: none of them is within itself -/
def SeenOk (c : ConfD) (f : Int → Bool) : Prop := ∀ x, f x = true → withinB c x = false
set_option maxRecDepth 100000 in
set_option maxHeartbeats 32000000 in
theorem circle_any (c : ConfD) (ps : List ByteArray) (v0 : Value) (w : World) (h : GC w c) (hs : Strs w v0 ps) (hz : ∀ p ∈ ps, SzB p) (hn : ps.length ≤ 2000) :
  Calls Tryz.prog 37 #[.agg (encC c).toArray, v0] w fun e w' => e = .returned (.bool (circleB c ps)) ∧ Ext w w' := by
 obtain ⟨cd, hcd1, hcd2⟩ := Tryz.confDesc
 have hmm := @run_makeMap Tryz.prog
 have hx : Ext w (w.alloc (.cells (encC c).toArray 30)) := (Below.refl _ _).alloc (Nat.le_refl _) _
 have hb1 := heap_alloc_new w (.cells (encC c).toArray 30)
 obtain ⟨_, a0, n0, rfl⟩ := hs.shape
 have hkz := kids_sz h
 have HG := hide (h.ext hx)
 have HS := hide (hs.ext hx)
 have HZ := hide hz
 have HCK := hide h.chk
 have HN := hide hn
 have HKZ := hide hkz
 clear hs hz h hn hkz
 go_enter Tryz.func37, Tryz.ntmps37
 go_upto_region 1 with (fail)
 show Code.wp _ _ _ _ (w.alloc (.cells (encC c).toArray 30))
 generalize w.alloc (.cells (encC c).toArray 30) = W at hx hb1 HG HS ⊢
 have HX := hide hx
 obtain ⟨b0, hb0⟩ : ∃ b, w.heap.size = b := ⟨_, rfl⟩
 rw [hb0] at hb1 ⊢
 have HB0 := hide hb0
 have HBX := hide (fun X (hX : Ext W X) => (hX.block b0 (Array.getElem?_eq_some_iff.1 hb1).1).trans hb1)
 clear hx hb1 hb0
 go_upto_region 2 with (fail)
 have hm1 := MapV.made (Lit.int .i64) W 3
 have hx1 : Ext W (W.alloc (.map #[] 0)) := (Below.refl _ _).alloc (Nat.le_refl _) _
 show Code.wp _ _ _ _ (W.alloc (.map #[] 0))
 obtain ⟨bm, hbm⟩ : ∃ b, W.heap.size = b := ⟨_, rfl⟩
 rw [hbm] at hm1 ⊢
 have HBM := hide (show W.heap.size ≤ bm by omega)
 generalize W.alloc (.map #[] 0) = W1 at hm1 hx1 ⊢
 have HM1 := hide hm1
 have HE1 := hide hx1
 clear hm1 hx1 hbm
 go_wp2_with fail
 go_loopw [15] (fun v15 wr => ∃ (k n : Nat) (f : Int → Bool), k ≤ ps.length ∧ v15 = .int .i64 k ∧ MapV (Lit.int .i64) wr 3 bm n (fun x => if f x = true then some (.bool true) else none) ∧ n ≤ 30 * k ∧ Hid (SeenOk c f ∧ circleB c (ps.take k) = false) ∧ Ext W wr) (fun k _ => ps.length - (intOf k).toNat)
 case atStart => exact ⟨0, 0, fun _ => false, Nat.zero_le _, rfl, HM1.out.congr fun x => rfl, Nat.le_refl _, hide ⟨fun x hx => (by cases hx), rfl⟩, HE1.out⟩
 case round =>
  obtain ⟨k, n, f, hk, rfl, hm, hnk, hso, hext⟩ := hrel
  have HM := hide hm
  have HNK := hide hnk
  have HSO := hide hso.out
  have HE := hide hext
  clear hm hnk hso hext HM1 HE1
  by_cases hlt : k < ps.length
  ·have hltz : (k : Int) < ps.length := by omega
   have hwk : IntKind.i64.wrap ((k : Int) + 1) = ((k + 1 : Nat) : Int) := by have := HN.out; rw [IntKind.wrap_i64]; omega
   obtain ⟨sb, so, rfl, hsb, z0⟩ := strs_row (HS.out.ext HE.out) k hlt
   have hcs : circleB c (ps.take (k + 1)) = (circleB c (ps.take k) || (bothP c.R ps[k]).any (withinB c)) := by unfold circleB; rw [take_snoc ps k hlt, List.any_append]; simp
   have hct : (bothP c.R ps[k]).any (withinB c) = true → circleB c ps = true := fun h => List.any_eq_true.2 ⟨_, List.getElem_mem hlt, h⟩
   have hzp := HZ.out ps[k] (List.getElem_mem hlt)
   have hbl := targ_len HCK.out ps[k]
   have hll : (bothP c.R ps[k]).length ≤ 30 := by unfold bothP; rw [List.length_append]; omega
   have hten := fun x (hx : x ∈ bothP c.R ps[k]) => targ_fit HCK.out ps[k] x hx
   generalize ps[k] = p at z0 hcs hct hzp hll hten
   have hbo := fun X (hX : Ext W X) => both_any c p X (HG.out.ext hX) hzp
   generalize bothP c.R p = L at hcs hct hll hten hbo
   have HCS := hide hcs
   have HCT := hide hct
   have HLL := hide hll
   have HTEN := hide hten
   have HBO := hide hbo
   clear hcs hct hzp hbl hll hten hbo
   go_upto_region 5 with (fail)
   refine wp_region_lit ?_
   refine wpList_load_mid rfl 30 (.tmp 2) rfl b0 0 rfl (encC c) cd (range_box (HBX.out _ HE.out)) hcd1 hcd2 Tryz.confSize ?_
   refine wpList_plain rfl fun Kq hKq => ?_
   go_simp
   refine hKq _ _ ?_
   refine wpList_plain rfl fun Kq hKq => ?_
   go_simp
   refine (HBO.out _ HE.out).mono ?_
   rintro e w2 ⟨u, rfl, hu, E2⟩
   refine hKq _ _ ?_
   clear hKq Kq z0
   obtain ⟨ua, uc, rfl⟩ := owns_shape hu
   have HU := hide (ownsLe hu HE.out.size)
   have HM2 := hide (HM.out.ext E2)
   have HE2 := hide (HE.out.trans E2)
   clear hu E2
   refine wpList_plain rfl fun Kq hKq => ?_
   go_simp
   refine hKq _ _ ?_
   refine wpList_plain rfl fun Kq hKq => ?_
   go_simp
   refine hKq _ _ ?_
   refine wpList_nil ?_
   go_wp2_with fail
   go_loopw [23] (fun v23 wr => ∃ (j n2 : Nat) (f : Int → Bool), j ≤ L.length ∧ v23 = .int .i64 j ∧ MapV (Lit.int .i64) wr 3 bm n2 (fun x => if f x = true then some (.bool true) else none) ∧ n2 ≤ n + j ∧ Hid (SeenOk c f ∧ (L.take j).any (withinB c) = false) ∧ wr.ownsRow W.heap.size 3 1 (.slice ua L.length uc) L.length (L.flatMap encI) ∧ Ext W wr) (fun j _ => L.length - (intOf j).toNat)
   case atStart => exact ⟨0, n, f, Nat.zero_le _, rfl, HM2.out, by omega, hide ⟨HSO.out.1, rfl⟩, HU.out, HE2.out⟩
   case round =>
    obtain ⟨j, n2, g, hj, rfl, hm, hn2, hso, hu, hext⟩ := hrel
    have HMJ := hide hm
    have HNJ := hide hn2
    have HSJ := hide hso.out
    have HUJ := hide hu
    have HEJ := hide hext
    clear hm hn2 hso hu hext HU HM2 HE2
    by_cases hltj : j < L.length
    ·have hltjz : (j : Int) < L.length := by omega
     have hwj : IntKind.i64.wrap ((j : Int) + 1) = ((j + 1 : Nat) : Int) := by have := HLL.out; rw [IntKind.wrap_i64]; omega
     obtain ⟨pb, po, hua, hpb, y0⟩ := ints_row (Sl.of_own' (enc := encI) (fun _ => rfl) HUJ.out : Ints wr (.slice ua L.length uc) L) j hltj
     subst hua
     have hsn : (L.take (j + 1)).any (withinB c) = ((L.take j).any (withinB c) || withinB c L[j]) := by rw [take_snoc L j hltj, List.any_append]; simp
     have hxm := List.getElem_mem hltj
     generalize L[j] = x at y0 hsn hxm
     have hx10 := HTEN.out x hxm
     have HX6 := hide (show I64 x by unfold I64; omega)
     have HSN := hide hsn
     have HXM := hide hxm
     clear hsn hxm hx10
     cases hgx : g x with
     | true =>
      have HGV := hide (show ((if g x = true then some (Value.bool true) else none : Option Value)).getD (.bool false) = .bool true by rw [hgx]; rfl)
      have hs2 := HSN.out
      rw [HSJ.out.2, HSJ.out.1 x hgx] at hs2
      have HS2 := hide hs2
      clear hs2
      go_wp2_with (at_lookup; refine wpList_mv_look _ rfl _ _ _ rfl HMJ.out keyedI Tryz.underlying117 (zeroB _) rfl _ rfl (keyIn HX6.out) _ HGV.out ?_)
      go_roundw
      case rel => exact ⟨j + 1, n2, g, hltj, by go_num, HMJ.out, by have := HNJ.out; omega, hide ⟨HSJ.out.1, HS2.out⟩, HUJ.out, HEJ.out⟩
      case measure => simp [intOf]; omega
     | false =>
      have HGV := hide (show ((if g x = true then some (Value.bool true) else none : Option Value)).getD (.bool false) = .bool false by rw [hgx]; rfl)
      go_upto_region 9 with (at_lookup; refine wpList_mv_look _ rfl _ _ _ rfl HMJ.out keyedI Tryz.underlying117 (zeroB _) rfl _ rfl (keyIn HX6.out) _ HGV.out ?_)
      refine wp_region_lit ?_
      refine wpList_plain rfl fun Kq hKq => ?_
      go_simp
      refine hKq _ _ ?_
      refine wpList_plain rfl fun Kq hKq => ?_
      go_simp
      refine hKq _ _ ?_
      refine wpList_mv_put _ rfl _ _ _ _ rfl HMJ.out intLit_inj keyedI Tryz.underlying117 (by have := HNJ.out; have := HNK.out; have := HN.out; have := HLL.out; unfold maxLen; omega) rfl _ (.bool true) rfl rfl (keyIn HX6.out) ?_
      intro w3 hm3 ht3
      refine wpList_nil ?_
      have HM3 := hide (show MapV (Lit.int .i64) w3 3 bm (n2 + 1) (fun y => if (if y = x then true else g y) = true then some (.bool true) else none) from hm3.congr fun y => by by_cases e : y = x <;> simp [e])
      have HU3 := hide (owns_keepM HUJ.out (turned_keeps ht3) HMJ.out.ofM)
      have HE3 := hide (Keeps.ext HEJ.out (turned_keeps ht3) fun q hq => by have := HBM.out; omega)
      clear hm3 ht3 y0
      simp only [Act.put]
      obtain ⟨ka, kc, hkv⟩ : ∃ ka kc, (findS c.S x).kv = .slice ka (findS c.S x).K.length kc := by
       obtain ⟨_, ka, kc, h⟩ := (HG.out.find x).shape
       exact ⟨ka, kc, h⟩
      have HKV := hide hkv
      have HSV := hide (show (findS c.S x).val = .agg #[.int .i64 (findS c.S x).id, (findS c.S x).kv, .int .i64 (findS c.S x).work, .int .i64 (findS c.S x).slots, .int .i64 (findS c.S x).queue, .int .i64 (findS c.S x).bal, .int .i64 (findS c.S x).warm] from rfl)
      have hstr : Strs w3 (.slice ka (findS c.S x).K.length kc) (findS c.S x).K := by rw [← hkv]; exact (HG.out.find x).ext HE3.out
      have HFI := hide (fun X (hX : Ext w3 X) => findG_any c x X (HG.out.ext (HE3.out.trans hX)))
      have HOW := hide (fun X (hX : Ext w3 X) => onway_any c (findS c.S x).K _ X (HG.out.ext (HE3.out.trans hX)) (hstr.ext hX) (HG.out.ksz x) (by have := find_kids HCK.out x; omega))
      have hwit : withinB c x = (wayC c (findS c.S x).K).any fun p => (bothP c.R p).contains x := rfl
      have hwsz : ∀ q ∈ wayC c (findS c.S x).K, SzB q := fun q hq => by
       obtain ⟨p0, hp0, hr⟩ := (wayC_mem c _ q).1 hq
       cases hr with
       | refl => exact HG.out.ksz x q hp0
       | step _ h3 => exact HKZ.out q (nbP_all c _ _ h3)
      obtain ⟨W1, hW1⟩ : ∃ l, wayC c (findS c.S x).K = l := ⟨_, rfl⟩
      rw [hW1] at hwit hwsz
      simp only [hW1] at HOW
      have HWIT := hide hwit
      have HWSZ := hide hwsz
      have HE5 := HE3
      obtain ⟨B, hB⟩ : ∃ B, w3.heap.size = B := ⟨_, rfl⟩
      have HBL := hide (show B ≤ w3.heap.size by omega)
      have HWL := hide (show W1.length ≤ 1000 by rw [← hW1]; have h1 := wayC_len c (findS c.S x).K; rw [List.length_append] at h1; have h2 := allK_len HCK.out; have h3 := find_kids HCK.out x; omega)
      clear hkv hstr hwit hwsz hW1 hB
      go_upto_region 10 with (fail)
      generalize w3 = W5 at *
      refine wp_region_rw 51 [] [32, 33, 34, 35, 36, 37, 38, 39] (fun _ w' => Ext W5 w') (fun (t : Nat) (wI : World) (v : Value) => match t with | 32 => v = (.agg (encC c).toArray) | 33 => v = (.agg (encC c).toArray) | 34 => v = (.int .i64 x) | 35 => v = (findS c.S x).val | 36 => v = (.slice ka (findS c.S x).K.length kc) | 37 => ∃ a cp, v = .slice a W1.length cp ∧ wI.ownsRow B 9 1 v W1.length (W1.flatMap encS) | 38 => v = (.int .i64 (W1.length : Int)) | 39 => v = (.int .i64 0) | _ => True) (fun w' w'' => Ext w' w'') (by kernel_rfl) rfl (by kernel_rfl) (by kernel_rfl) (by kernel_rfl) (by kernel_rfl) ?_ ?_ ?_ ?_ ?_ ?_ ?_
      ·intro w' w'' h
       exact h
      ·intro t w' w'' v hR hv
       split at hv <;> first | exact hv | ((obtain ⟨a, cp, h1, h2⟩ := hv; exact ⟨a, cp, h1, owns_ext h2 hR⟩))
      ·intro vs w' w'' h e
       exact Ext.trans h e
      ·exact (Below.refl _ _).drew
      ·intro i o ho hmi vs X w' hpk hph hX hI hF K hK
       have hin : i < 8 := (Array.getElem?_eq_some_iff.1 ho).1
       have hi : i = 0 ∨ i = 1 ∨ i = 2 ∨ i = 3 ∨ i = 4 ∨ i = 5 ∨ i = 6 ∨ i = 7 := by omega
       rcases hi with rfl | rfl | rfl | rfl | rfl | rfl | rfl | rfl
       ·obtain rfl := Option.some.inj ho
        have e2 : X 2 = (.pointer (some ⟨b0, 0, none⟩)) := hF 2 (by omega) (by kernel_rfl)
        have hx : Ext W5 w' := hph
        unfold wpOp
        simp only [ho]
        rw [if_pos (by rfl)]
        left
        rw [frame51]
        refine wp_load_mid 30 (.tmp 2) rfl b0 0 e2 (encC c) cd (range_box (HBX.out w' (HE5.out.trans hx))) hcd1 hcd2 Tryz.confSize (metK (hK.out (.agg (encC c).toArray) _ (Below.refl _ _) (fun d hd => by cases hd; exact rfl)) ?_)
        simp [frame51, Act.put, *]
       ·obtain rfl := Option.some.inj ho
        have e2 : X 2 = (.pointer (some ⟨b0, 0, none⟩)) := hF 2 (by omega) (by kernel_rfl)
        have hx : Ext W5 w' := hph
        unfold wpOp
        simp only [ho]
        rw [if_pos (by rfl)]
        left
        rw [frame51]
        refine wp_load_mid 30 (.tmp 2) rfl b0 0 e2 (encC c) cd (range_box (HBX.out w' (HE5.out.trans hx))) hcd1 hcd2 Tryz.confSize (metK (hK.out (.agg (encC c).toArray) _ (Below.refl _ _) (fun d hd => by cases hd; exact rfl)) ?_)
        simp [frame51, Act.put, *]
       ·obtain rfl := Option.some.inj ho
        have e9 : X 9 = (.int .i64 x) := hF 9 (by omega) (by kernel_rfl)
        unfold wpOp
        simp only [ho]
        rw [if_pos (by rfl)]
        left
        rw [frame51]
        go_simp
        refine metK (hK.out ((.int .i64 x)) _ (Below.refl _ _) (fun d hd => by cases hd; exact rfl)) ?_
        simp [frame51, Act.put, *]
       ·obtain rfl := Option.some.inj ho
        have e33 : X 33 = _ := hI 33 (by kernel_rfl) (by kernel_rfl)
        have e34 : X 34 = _ := hI 34 (by kernel_rfl) (by kernel_rfl)
        have hx : Ext W5 w' := hph
        unfold wpOp
        simp only [ho]
        rw [if_pos (by rfl)]
        left
        rw [frame51]
        go_simp
        refine (HFI.out w' hx).mono ?_
        rintro e w9 ⟨rfl, E9⟩
        refine metK (hK.out (findS c.S x).val w9 E9 (fun d hd => by cases hd; exact rfl)) ?_
        simp [frame51, Act.put, *]
       ·obtain rfl := Option.some.inj ho
        have e35 : X 35 = _ := hI 35 (by kernel_rfl) (by kernel_rfl)
        have hx : Ext W5 w' := hph
        unfold wpOp
        simp only [ho]
        rw [if_pos (by rfl)]
        left
        rw [frame51]
        rw [HSV.out] at e35
        have hkv := HKV.out
        go_simp
        refine metK (hK.out (.slice ka (findS c.S x).K.length kc) _ (Below.refl _ _) (fun d hd => by cases hd; exact rfl)) ?_
        simp [frame51, Act.put, *]
       ·obtain rfl := Option.some.inj ho
        have e32 : X 32 = _ := hI 32 (by kernel_rfl) (by kernel_rfl)
        have e36 : X 36 = _ := hI 36 (by kernel_rfl) (by kernel_rfl)
        have hx : Ext W5 w' := hph
        unfold wpOp
        simp only [ho]
        rw [if_pos (by rfl)]
        left
        rw [frame51]
        go_simp
        refine (HOW.out w' hx).mono ?_
        rintro e w9 ⟨u, rfl, hu, E9⟩
        obtain ⟨a9, c9, rfl⟩ := owns_shape hu
        refine metK (hK.out _ w9 E9 (fun d hd => by cases hd; exact ⟨a9, c9, rfl, ownsLe hu (Nat.le_trans HBL.out hx.size)⟩)) ?_
        simp [frame51, Act.put, *]
       ·obtain rfl := Option.some.inj ho
        have y37 := hI 37 (by kernel_rfl) (by kernel_rfl)
        obtain ⟨a37, c37, h37, -⟩ := y37
        have e37 : X 37 = .slice a37 W1.length c37 := h37
        unfold wpOp
        simp only [ho]
        rw [if_pos (by rfl)]
        left
        rw [frame51]
        go_simp
        refine metK (hK.out (.int .i64 (W1.length : Int)) _ (Below.refl _ _) (fun d hd => by cases hd; exact rfl)) ?_
        simp [frame51, Act.put, *]
       ·obtain rfl := Option.some.inj ho
        unfold wpOp
        simp only [ho]
        rw [if_pos (by rfl)]
        left
        rw [frame51]
        go_simp
        refine metK (hK.out ((.int .i64 0)) _ (Below.refl _ _) (fun d hd => by cases hd; exact rfl)) ?_
        simp [frame51, Act.put, *]
      ·intro i o ho hmi vs X w' hqi hql hph hX hI hF K hK
       rcases vs with _
       ·simp at hql <;> omega
      ·intro vs X w' hlen hph hX hI
       have e32 : X 32 = _ := hI 32 (by omega) (by kernel_rfl) (by kernel_rfl)
       have e33 : X 33 = _ := hI 33 (by omega) (by kernel_rfl) (by kernel_rfl)
       have e34 : X 34 = _ := hI 34 (by omega) (by kernel_rfl) (by kernel_rfl)
       have e35 : X 35 = _ := hI 35 (by omega) (by kernel_rfl) (by kernel_rfl)
       have e36 : X 36 = _ := hI 36 (by omega) (by kernel_rfl) (by kernel_rfl)
       have y37 := hI 37 (by omega) (by kernel_rfl) (by kernel_rfl)
       have e38 : X 38 = _ := hI 38 (by omega) (by kernel_rfl) (by kernel_rfl)
       have e39 : X 39 = _ := hI 39 (by omega) (by kernel_rfl) (by kernel_rfl)
       rcases vs with _ | ⟨vz, vs⟩
       rotate_left
       ·simp at hlen
       clear hX hI hlen
       simp only [overF, List.foldl_cons, List.foldl_nil, List.setIfInBounds_toArray, List.set_cons_succ, List.set_cons_zero, e32, e33, e34, e35, e36, e38, e39]
       obtain ⟨a37, c37, h37, hu37⟩ := y37
       have e37 : X 37 = .slice a37 W1.length c37 := h37
       simp only [e37]
       rw [h37] at hu37
       have hx9 : Ext W5 w' := hph
       clear hph e32 e33 e34 e35 e36 e38 e39 h37 e37
       generalize w' = W6 at *
       have HU6 := hide (Sl.of_own' (enc := encS) (fun _ => rfl) hu37 : Strs W6 (.slice a37 W1.length c37) W1)
       have HX5 := hide hx9
       clear hx9 hu37 HFI HOW
       go_wp2_with fail
       go_loopw [39] (fun v39 wr => ∃ m : Nat, m ≤ W1.length ∧ v39 = .int .i64 m ∧ Hid (((W1.take m).any fun p => (bothP c.R p).contains x) = false) ∧ Ext W6 wr) (fun m _ => W1.length - (intOf m).toNat)
       case atStart => exact ⟨0, Nat.zero_le _, rfl, hide rfl, Below.refl _ _⟩
       case round =>
        obtain ⟨m, hm, rfl, hno, hext⟩ := hrel
        have HNO := hide hno.out
        have HEM := hide hext
        clear hno hext
        by_cases hltm : m < W1.length
        ·have hltmz : (m : Int) < W1.length := by omega
         have hwm : IntKind.i64.wrap ((m : Int) + 1) = ((m + 1 : Nat) : Int) := by have := HWL.out; rw [IntKind.wrap_i64]; omega
         obtain ⟨qb, qo, rfl, hqb, z0⟩ := strs_row (HU6.out.ext HEM.out) m hltm
         have hsn : ((W1.take (m + 1)).any fun p => (bothP c.R p).contains x) = (((W1.take m).any fun p => (bothP c.R p).contains x) || (bothP c.R W1[m]).contains x) := by rw [take_snoc W1 m hltm, List.any_append]; simp
         rw [HNO.out, Bool.false_or] at hsn
         have hit : (bothP c.R W1[m]).contains x = true → withinB c x = true := fun h => by rw [HWIT.out]; exact List.any_eq_true.2 ⟨_, List.getElem_mem hltm, h⟩
         have hqz := HWSZ.out W1[m] (List.getElem_mem hltm)
         generalize W1[m] = q at z0 hsn hit hqz
         have hbo := fun X (hX : Ext W X) => both_any c q X (HG.out.ext hX) hqz
         generalize bothP c.R q = L2 at hsn hit hbo
         have HSM := hide hsn
         have HIT := hide hit
         have HBQ := hide hbo
         clear hsn hit hqz hbo
         go_upto_region 13 with (fail)
         refine wp_region_lit ?_
         refine wpList_load_mid rfl 30 (.tmp 2) rfl b0 0 rfl (encC c) cd (range_box (HBX.out _ (HE5.out.trans (HX5.out.trans HEM.out)))) hcd1 hcd2 Tryz.confSize ?_
         refine wpList_plain rfl fun Kq hKq => ?_
         go_simp
         refine hKq _ _ ?_
         refine wpList_plain rfl fun Kq hKq => ?_
         go_simp
         refine (HBQ.out _ (HE5.out.trans (HX5.out.trans HEM.out))).mono ?_
         rintro e w7 ⟨u2, rfl, hu2, E7⟩
         refine hKq _ _ ?_
         clear hKq Kq z0
         obtain ⟨u2a, u2c, rfl⟩ := owns_shape hu2
         have hcn := Rg.contains_any (Sl.of_own' (enc := encI) (fun _ => rfl) hu2 : Ints w7 (.slice u2a L2.length u2c) L2) x
         have HE7 := hide (HEM.out.trans E7)
         obtain ⟨t, ht⟩ : ∃ t, decide (x ∈ L2) = t := ⟨_, rfl⟩
         rw [ht] at hcn
         have htc : L2.contains x = t := by rw [← ht]; simp
         have HCN := hide hcn
         have HTC := hide htc
         clear hu2 E7 hcn ht htc
         refine wpList_plain rfl fun Kq hKq => ?_
         go_simp
         refine hKq _ _ ?_
         refine wpList_plain rfl fun Kq hKq => ?_
         go_simp
         refine HCN.out.mono ?_
         rintro e w8 ⟨rfl, hw8⟩
         subst hw8
         refine hKq _ _ ?_
         clear hKq Kq HCN
         refine wpList_nil ?_
         cases t with
         | true =>
          have hc := HCT.out (List.any_eq_true.2 ⟨x, HXM.out, HIT.out HTC.out⟩)
          have HC := hide hc
          have HZZ := hide (HX.out.trans (HE5.out.trans (HX5.out.trans HE7.out)))
          clear hc
          go_wp2
          go_ret
          exact ⟨by rw [HC.out]; rfl, HZZ.out⟩
         | false =>
          have hs2 := HSM.out
          rw [HTC.out] at hs2
          have HS2 := hide hs2
          clear hs2
          go_wp2
          go_roundw
          case rel => exact ⟨m + 1, hltm, by go_num, hide HS2.out, HE7.out⟩
          case measure => simp [intOf]; omega
        ·obtain rfl : m = W1.length := by omega
         have hltmz : ¬ (W1.length : Int) < W1.length := by omega
         have hno := HNO.out
         rw [List.take_length, ← HWIT.out] at hno
         have hs2 := HSN.out
         rw [HSJ.out.2, hno] at hs2
         have hsk : SeenOk c (fun y => if y = x then true else g y) := fun y hy => by
          by_cases e : y = x
          ·rw [e]
           exact hno
          ·exact HSJ.out.1 y (by simpa [e] using hy)
         have HS2 := hide (And.intro hsk hs2)
         have hE := HX5.out.trans HEM.out
         have HMZ := hide (HM3.out.ext hE)
         have HUZ := hide (owns_ext HU3.out hE)
         have HEZ := hide (HE5.out.trans hE)
         clear hno hs2 hsk hE
         go_wp2
         go_roundw
         case rel => exact ⟨j + 1, n2 + 1, _, hltj, by go_num, HMZ.out, by have := HNJ.out; omega, hide HS2.out, HUZ.out, HEZ.out⟩
         case measure => simp [intOf]; omega
    ·obtain rfl : j = L.length := by omega
     have hltjz : ¬ (L.length : Int) < L.length := by omega
     have hso := HSJ.out
     rw [List.take_length] at hso
     have hc2 := HCS.out
     rw [HSO.out.2, hso.2] at hc2
     have HS2 := hide (show SeenOk c g ∧ circleB c (ps.take (k + 1)) = false from ⟨hso.1, hc2⟩)
     clear hso hc2
     go_wp2
     go_roundw
     case rel => exact ⟨k + 1, n2, g, hlt, by go_num, HMJ.out, by have := HNJ.out; have := HNK.out; have := HLL.out; omega, hide HS2.out, HEJ.out⟩
     case measure => simp [intOf]; omega
  ·obtain rfl : k = ps.length := by omega
   have hltz : ¬ (ps.length : Int) < ps.length := by omega
   have hc := HSO.out.2
   rw [List.take_length] at hc
   have HC := hide hc
   have HZZ := hide (HX.out.trans HE.out)
   clear hc
   go_wp2
   go_ret
   exact ⟨by rw [HC.out]; rfl, HZZ.out⟩
end Go.Proofs.YtceaeiaoanhlnaaGreatDoor
