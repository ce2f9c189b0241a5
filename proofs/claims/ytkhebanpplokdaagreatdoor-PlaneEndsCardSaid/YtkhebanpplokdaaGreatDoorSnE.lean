import Derived.Test.YtkhebanpplokdaaGreatDoorSnD
namespace Go.Proofs.YtkhebanpplokdaaGreatDoor
open Go.ChangeShapes Go.WideShapes Go.ChangeAt Go.RowKit Go.Lib Go.Shelf Go.Maps
theorem Rg.RingNew.mono {base base' : Nat} {w : World} {r : Value} {n : Nat} {P : List (Int × Int)} (h : Rg.RingNew base w r n P) (hb : base' ≤ base) : Rg.RingNew base' w r n P := by
 obtain ⟨h0, h00, B, a, cap, h1, h2, h3, h4, h5⟩ := h
 exact ⟨h0, h00, B, a, cap, h1, h2, h3, Nat.le_trans hb h4, fun ad had => Nat.le_trans hb (h5 ad had)⟩
set_option maxRecDepth 100000 in
set_option maxHeartbeats 16000000 in
theorem mnew_gen (ver : Int) (B : Nat) (c : ConfD) (w : World) (hm : MaxV w) (hB : B ≤ w.heap.size) (ho : ConfOwn B w c) (hf : ConfFit c) (hE : chkC c = 0 → c.E.length ≤ 19) :
  Calls Tryz.prog 10 #[.int .i64 ver, c.val] w fun e w' => Ext w w' ∧ ((chkC c ≠ 0 ∧ e = .returned (.tuple #[.pointer none, .int .i64 (chkC c)])) ∨ (chkC c = 0 ∧ ∃ b, e = .returned (.tuple #[.pointer (some ⟨b, 0, none⟩), .int .i64 0]) ∧ SnapAt w.heap.size w' b ver c)) := by
 obtain ⟨cd, hcd1, hcd2⟩ := Tryz.confDesc
 have hx0 : Ext w (w.alloc (.cells #[c.sv, c.ev, c.rv, c.tv, .int .i64 c.w0, .int .i64 c.w1, .int .i64 c.w2, .int .i64 c.w3, .int .i64 c.w4, .int .i64 c.w5, .int .i64 c.w6, .int .i64 c.panic, .int .i64 c.low, .int .i64 c.high, .int .i64 c.wait, .int .i64 c.hop, .int .i64 c.life, .int .i64 c.purse, .int .i64 c.horizon, .int .i64 c.sample] 30)) := (Below.refl _ w).alloc (Nat.le_refl _) _
 have hb0 : BoxC (w.alloc (.cells #[c.sv, c.ev, c.rv, c.tv, .int .i64 c.w0, .int .i64 c.w1, .int .i64 c.w2, .int .i64 c.w3, .int .i64 c.w4, .int .i64 c.w5, .int .i64 c.w6, .int .i64 c.panic, .int .i64 c.low, .int .i64 c.high, .int .i64 c.wait, .int .i64 c.hop, .int .i64 c.life, .int .i64 c.purse, .int .i64 c.horizon, .int .i64 c.sample] 30)) w.heap.size c := heap_alloc_new w _
 have HO := hide ho
 have HM := hide hm
 have HF := hide hf
 clear ho hm hf
 show Calls Tryz.prog 10 #[.int .i64 ver, .agg #[c.sv, c.ev, c.rv, c.tv, .int .i64 c.w0, .int .i64 c.w1, .int .i64 c.w2, .int .i64 c.w3, .int .i64 c.w4, .int .i64 c.w5, .int .i64 c.w6, .int .i64 c.panic, .int .i64 c.low, .int .i64 c.high, .int .i64 c.wait, .int .i64 c.hop, .int .i64 c.life, .int .i64 c.purse, .int .i64 c.horizon, .int .i64 c.sample]] w _
 go_enter Tryz.func10, Tryz.ntmps10
 go_upto_region 1 with (fail)
 generalize w.alloc (.cells #[c.sv, c.ev, c.rv, c.tv, .int .i64 c.w0, .int .i64 c.w1, .int .i64 c.w2, .int .i64 c.w3, .int .i64 c.w4, .int .i64 c.w5, .int .i64 c.w6, .int .i64 c.panic, .int .i64 c.low, .int .i64 c.high, .int .i64 c.wait, .int .i64 c.hop, .int .i64 c.life, .int .i64 c.purse, .int .i64 c.horizon, .int .i64 c.sample] 30) = W0 at hx0 hb0 ⊢
 have HX0 := hide hx0
 have HB0 := hide hb0
 clear hx0 hb0
 refine wp_region_lit ?_
 refine wpList_load_mid rfl 30 (.tmp 3) rfl w.heap.size 0 rfl (encC c) cd HB0.out.range hcd1 hcd2 Tryz.confSize ?_
 simp only [Act.put]
 go_wp2_with fail
 refine (check_any c W0 (HM.out.ext HX0.out) (HO.out.ext HX0.out).ok HF.out).mono ?_
 rintro e W1 ⟨rfl, E1⟩
 have HX1 := hide (HX0.out.trans E1)
 have HB1 := hide (HB0.out.ext E1)
 clear E1 HX0 HB0
 by_cases hz : chkC c ≠ 0
 ·obtain ⟨z, hzz⟩ : ∃ z, chkC c = z := ⟨_, rfl⟩
  rw [hzz] at hz
  simp only [hzz]
  have hz' : (z != 0) = true := by simpa using hz
  go_wp2
  go_ret2
  exact ⟨HX1.out, .inl ⟨by rw [hzz]; exact hz, by rw [hzz]; rfl⟩⟩
 ·have hz : chkC c = 0 := by omega
  rw [hz]
  have HZ := hide hz
  clear hz
  go_upto_region 4 with (fail)
  refine wp_region_lit ?_
  refine wpList_load_mid rfl 30 (.tmp 3) rfl w.heap.size 0 rfl (encC c) cd HB1.out.range hcd1 hcd2 Tryz.confSize ?_
  simp only [Act.put]
  go_wp2_with fail
  refine (copy_any B c W1 (Nat.le_trans hB HX1.out.size) (HO.out.ext HX1.out) (right_len HZ.out HF.out) (by have := (chkC_ends HZ.out).1; omega) (by omega) (by have := (nerr_zero (chkC_ends HZ.out).2.2.2.2.2.1).1; omega) (by have := (chkC_ends HZ.out).2.2.1; omega)).mono ?_
  rintro e W2 ⟨d, rfl, hcore, hown, E2⟩
  have HC := hide hcore
  have HX2 := hide (HX1.out.trans E2)
  have HOW := hide hown
  have hW12 := HX1.out.size
  clear hcore hown E2 HB1 HX1
  have hbz := heap_alloc_new W2 (.cells #[.slice none 0 0, .slice none 0 0, .slice none 0 0, .slice none 0 0, .int .i64 0, .int .i64 0, .int .i64 0, .int .i64 0, .int .i64 0, .int .i64 0, .int .i64 0, .int .i64 0, .int .i64 0, .int .i64 0, .int .i64 0, .int .i64 0, .int .i64 0, .int .i64 0, .int .i64 0, .int .i64 0] 30)
  have hxz : Ext W2 (W2.alloc (.cells #[.slice none 0 0, .slice none 0 0, .slice none 0 0, .slice none 0 0, .int .i64 0, .int .i64 0, .int .i64 0, .int .i64 0, .int .i64 0, .int .i64 0, .int .i64 0, .int .i64 0, .int .i64 0, .int .i64 0, .int .i64 0, .int .i64 0, .int .i64 0, .int .i64 0, .int .i64 0, .int .i64 0] 30)) := (Below.refl _ _).alloc (Nat.le_refl _) _
  have hth : (W2.alloc (.cells #[.slice none 0 0, .slice none 0 0, .slice none 0 0, .slice none 0 0, .int .i64 0, .int .i64 0, .int .i64 0, .int .i64 0, .int .i64 0, .int .i64 0, .int .i64 0, .int .i64 0, .int .i64 0, .int .i64 0, .int .i64 0, .int .i64 0, .int .i64 0, .int .i64 0, .int .i64 0, .int .i64 0] 30)).there W2.heap.size 0 20 := fun q hq => by
   rw [Nat.zero_add]
   refine ⟨?_, by simp only [World.frozen?]; rw [hbz]; simp⟩
   simp only [World.cell?, hbz]
   simp [hq]
  go_upto_region 5 with (refine wpList_store_mid rfl 30 (.tmp 7) (.tmp 19) rfl W2.heap.size 0 (encC d).toArray rfl rfl hth Tryz.confSize (all_oneCell_toArray (encC_one' HOW.out)) ?_)
  generalize W2.alloc (.cells #[.slice none 0 0, .slice none 0 0, .slice none 0 0, .slice none 0 0, .int .i64 0, .int .i64 0, .int .i64 0, .int .i64 0, .int .i64 0, .int .i64 0, .int .i64 0, .int .i64 0, .int .i64 0, .int .i64 0, .int .i64 0, .int .i64 0, .int .i64 0, .int .i64 0, .int .i64 0, .int .i64 0] 30) = W3 at hbz hxz hth ⊢
  obtain ⟨b7, hb7⟩ : ∃ b, W2.heap.size = b := ⟨_, rfl⟩
  rw [hb7] at hbz hth ⊢
  have hrs := World.rangeAt_setCells_same W3 b7 0 (encC d) hth
  obtain ⟨cs, hcs1, hcs2⟩ := setCells_block b7 30 (0, 0) (encC d) 0 W3 _ hbz
  have hk5 := keeps_setCells b7 (encC d) 0 W3
  show Code.wp _ _ _ _ (W3.setCells b7 0 (encC d))
  generalize W3.setCells b7 0 (encC d) = W at hrs hk5 hcs1 ⊢
  have hbx : BoxC W b7 d := BoxC.of_range hcs1 (by rw [hcs2]; rfl) hrs
  have HB7 := hide hbx
  have HX := hide (Keeps.ext (HX2.out.trans hxz) hk5 (fun g hg => by have := HX2.out.size; omega))
  have HOD := hide (((owns_mono_conf HOW.out (show w.heap.size ≤ W1.heap.size from hW12)).ext hxz).keepT hk5 (OfT.one hbz) (by decide) (by decide) (by decide) (by decide) (by decide) (by decide) (by decide))
  clear hrs hk5 hcs1 hcs2 hbz hxz hth hbx HOW HX2 hb7
  have q2 : W.cell? ⟨b7, 2, none⟩ = some d.rv := HB7.out.cell 2 _ rfl
  obtain ⟨aT, cT, hvT⟩ := owns_shape HOD.out.t
  have q3 : W.cell? ⟨b7, 3, none⟩ = some (.slice aT d.T.length cT) := by rw [← hvT]; exact HB7.out.cell 3 _ rfl
  clear hvT
  go_wp2_with fail
  have hdz : chkC d = 0 := (chkC_same HC.out).trans HZ.out
  have hn0 := (chkC_ends hdz).2.2.2.2.2.1
  refine (hnew_any d.R d.T.length d.rv W (Sl.of_own' encR_len HOD.out.r) (fun r hr => ⟨(HOD.out.rr r hr).ok, by obtain ⟨r0, h1, h2⟩ := mem_core HC.out hr; exact (HF.out.2.2.1 r0 h1).1.core h2⟩) (HM.out.ext HX.out)).mono ?_
  rintro e W4 ⟨E4, h4 | ⟨-, bt, Rs, rfl, htab, hrs⟩⟩
  ·exact absurd hn0 h4.1
  have HDZ := hide hdz
  clear q2 q3 hdz hn0
  have HTAB := hide (TabAt.mono htab HX.out.size)
  have HRS := hide hrs
  have HB7' := hide (HB7.out.ext E4)
  have HOD' := hide (HOD.out.ext E4)
  have HX' := hide (HX.out.trans E4)
  clear htab hrs E4 HB7 HOD HX
  have HB7 := HB7'
  have HOD := HOD'
  have HX := HX'
  clear HB7' HOD' HX'
  obtain ⟨aS, cS, hvS⟩ := owns_shape HOD.out.s
  have HSV := hide hvS
  clear hvS
  go_upto_region 8 with (fail)
  generalize W4 = W at *
  refine wp_region_gw 74 [10, 32, 33, 34, 35, 36, 37, 38, 39, 40, 41, 42, 43, 44, 45] (fun (t : Nat) (wI : World) (v : Value) => match t with | 10 => True | 32 => v = (.int .i64 ver) | 33 => v = (.agg #[d.sv, d.ev, d.rv, d.tv, .int .i64 d.w0, .int .i64 d.w1, .int .i64 d.w2, .int .i64 d.w3, .int .i64 d.w4, .int .i64 d.w5, .int .i64 d.w6, .int .i64 d.panic, .int .i64 d.low, .int .i64 d.high, .int .i64 d.wait, .int .i64 d.hop, .int .i64 d.life, .int .i64 d.purse, .int .i64 d.horizon, .int .i64 d.sample]) | 34 => v = (.pointer (some ⟨bt, 0, none⟩)) | 35 => v = (.pointer (some ⟨b7, 0, none⟩)) | 36 => v = (.slice aS d.S.length cS) | 37 => v = (.int .i64 d.S.length) | 38 => ∃ q, v = .map (some q) ∧ W.heap.size ≤ q ∧ wI.heap[q]? = some (.map #[] 0) | 39 => v = (.pointer (some ⟨b7, 0, none⟩)) | 40 => v = (.slice aS d.S.length cS) | 41 => v = (.int .i64 d.S.length) | 42 => ∃ q, v = .map (some q) ∧ W.heap.size ≤ q ∧ wI.heap[q]? = some (.map #[] 0) | 43 => Rg.RingNew W.heap.size wI v (Rg.ends []).length (Rg.pointsOf 16 []) | 44 => True | 45 => True | _ => True) (GN W ver d (.pointer (some ⟨bt, 0, none⟩))) (by kernel_rfl) rfl (by kernel_rfl) (by kernel_rfl) (by kernel_rfl) ?_ ?_ ?_ ?_
  ·intro t w' w'' v hR hv
   split at hv <;> first | exact hv | (obtain ⟨q, h1, h2, h3⟩ := hv; exact ⟨q, h1, h2, (hR.block q (Array.getElem?_eq_some_iff.1 h3).1).trans h3⟩) | (exact hv.ext hR) | (subst hv; rfl)
  ·exact ⟨fun h => by simp at h, fun h => by simp at h, fun h => by simp at h, fun h => by simp at h⟩
  ·intro i o ho L X w' hx hLi hLb hI hF hD hdn hG K hK
   have hin : i < 15 := (Array.getElem?_eq_some_iff.1 ho).1
   have hi : i = 0 ∨ i = 1 ∨ i = 2 ∨ i = 3 ∨ i = 4 ∨ i = 5 ∨ i = 6 ∨ i = 7 ∨ i = 8 ∨ i = 9 ∨ i = 10 ∨ i = 11 ∨ i = 12 ∨ i = 13 ∨ i = 14 := by omega
   rcases hi with rfl | rfl | rfl | rfl | rfl | rfl | rfl | rfl | rfl | rfl | rfl | rfl | rfl | rfl | rfl
   ·obtain rfl := Option.some.inj ho
    have e0 : X 0 = (.int .i64 ver) := hF 0 (by omega) (by kernel_rfl)
    unfold wpOp
    simp only [ho]
    rw [if_pos (by rfl)]
    left
    rw [frame74]
    go_simp
    refine metK (hK.out ((.int .i64 ver)) _ (Below.refl _ _) (fun d hd => by cases hd; exact rfl) (hG.put 0 (some 32) _ rfl rfl)) ?_
    simp [frame74, Act.put, *]
   ·obtain rfl := Option.some.inj ho
    have e7 : X 7 = (.pointer (some ⟨b7, 0, none⟩)) := hF 7 (by omega) (by kernel_rfl)
    unfold wpOp
    simp only [ho]
    rw [if_pos (by rfl)]
    left
    rw [frame74]
    refine wp_load_mid 30 (.tmp 7) rfl b7 0 e7 (encC d) cd ((HB7.out.ext hx).range) hcd1 hcd2 Tryz.confSize (metK (hK.out (.agg #[d.sv, d.ev, d.rv, d.tv, .int .i64 d.w0, .int .i64 d.w1, .int .i64 d.w2, .int .i64 d.w3, .int .i64 d.w4, .int .i64 d.w5, .int .i64 d.w6, .int .i64 d.panic, .int .i64 d.low, .int .i64 d.high, .int .i64 d.wait, .int .i64 d.hop, .int .i64 d.life, .int .i64 d.purse, .int .i64 d.horizon, .int .i64 d.sample]) _ (Below.refl _ _) (fun dd hd => by cases hd; exact rfl) (hG.put 1 (some 33) _ rfl rfl)) ?_)
    rfl
   ·obtain rfl := Option.some.inj ho
    have e8 : X 8 = (.pointer (some ⟨bt, 0, none⟩)) := hF 8 (by omega) (by kernel_rfl)
    unfold wpOp
    simp only [ho]
    rw [if_pos (by rfl)]
    left
    rw [frame74]
    go_simp
    refine metK (hK.out ((.pointer (some ⟨bt, 0, none⟩))) _ (Below.refl _ _) (fun d hd => by cases hd; exact rfl) (hG.put 2 (some 34) _ rfl rfl)) ?_
    simp [frame74, Act.put, *]
   ·obtain rfl := Option.some.inj ho
    have e7 : X 7 = (.pointer (some ⟨b7, 0, none⟩)) := hF 7 (by omega) (by kernel_rfl)
    unfold wpOp
    simp only [ho]
    rw [if_pos (by rfl)]
    left
    rw [frame74]
    go_simp
    refine metK (hK.out ((.pointer (some ⟨b7, 0, none⟩))) _ (Below.refl _ _) (fun d hd => by cases hd; exact rfl) (hG.put 3 (some 35) _ rfl rfl)) ?_
    simp [frame74, Act.put, *]
   ·obtain rfl := Option.some.inj ho
    have e35 : X 35 = _ := hI 35 (by kernel_rfl) (by kernel_rfl)
    have q := (HB7.out.ext hx).cell 0 _ rfl
    rw [HSV.out] at q
    unfold wpOp
    simp only [ho]
    rw [if_pos (by rfl)]
    left
    rw [frame74]
    go_simp
    refine metK (hK.out ((.slice aS d.S.length cS)) _ (Below.refl _ _) (fun d hd => by cases hd; exact rfl) (hG.put 4 (some 36) _ rfl rfl)) ?_
    simp [frame74, Act.put, *]
   ·obtain rfl := Option.some.inj ho
    have e36 : X 36 = _ := hI 36 (by kernel_rfl) (by kernel_rfl)
    unfold wpOp
    simp only [ho]
    rw [if_pos (by rfl)]
    left
    rw [frame74]
    go_simp
    refine metK (hK.out ((.int .i64 d.S.length)) _ (Below.refl _ _) (fun d hd => by cases hd; exact rfl) (hG.put 5 (some 37) _ rfl rfl)) ?_
    simp [frame74, Act.put, *]
   ·obtain rfl := Option.some.inj ho
    have e37 : X 37 = _ := hI 37 (by kernel_rfl) (by kernel_rfl)
    unfold wpOp
    simp only [ho]
    rw [if_pos (by rfl)]
    left
    rw [frame74]
    go_simp
    have hE : Ext w' (w'.alloc (.map #[] 0)) := (Below.refl _ _).alloc (Nat.le_refl _) _
    have hnew : (w'.alloc (.map #[] 0)).heap[w'.heap.size]? = some (.map #[] 0) := (MapKept.heap_alloc w' _).1
    have hG' := hG.ext hE
    refine metK (hK.out (.map (some w'.heap.size)) _ hE (fun dd hd => by cases hd; exact ⟨w'.heap.size, rfl, hx.size, hnew⟩) ?_) ?_
    ·refine ⟨fun h1 h2 => ?_, fun h => ?_, fun h => ?_, fun h => ?_⟩
     ·have hL10 : L 10 = true := by simpa using h2
      obtain ⟨q, hq, hq2, hq3⟩ := hD 10 42 (by decide) (by kernel_rfl) hL10
      have hlt := (Array.getElem?_eq_some_iff.1 hq3).1
      simp only [putX, hq]
      intro e
      simp at e
      omega
     ·have hl : L 12 = true := by simpa using h
      exact absurd (hdn 12 (by decide) hl 6 (List.contains_iff_mem.1 (by kernel_rfl))) (by rw [hLi]; decide)
     ·have hl : L 13 = true := by simpa using h
      exact absurd (hdn 12 (by decide) (hdn 13 (by decide) hl 12 (List.contains_iff_mem.1 (by kernel_rfl))) 6 (List.contains_iff_mem.1 (by kernel_rfl))) (by rw [hLi]; decide)
     ·have hl : L 14 = true := by simpa using h
      exact absurd (hdn 12 (by decide) (hdn 13 (by decide) (hdn 14 (by decide) hl 13 (List.contains_iff_mem.1 (by kernel_rfl))) 12 (List.contains_iff_mem.1 (by kernel_rfl))) 6 (List.contains_iff_mem.1 (by kernel_rfl))) (by rw [hLi]; decide)
    ·simp [frame74, Act.put, *]
   ·obtain rfl := Option.some.inj ho
    have e7 : X 7 = (.pointer (some ⟨b7, 0, none⟩)) := hF 7 (by omega) (by kernel_rfl)
    unfold wpOp
    simp only [ho]
    rw [if_pos (by rfl)]
    left
    rw [frame74]
    go_simp
    refine metK (hK.out ((.pointer (some ⟨b7, 0, none⟩))) _ (Below.refl _ _) (fun d hd => by cases hd; exact rfl) (hG.put 7 (some 39) _ rfl rfl)) ?_
    simp [frame74, Act.put, *]
   ·obtain rfl := Option.some.inj ho
    have e39 : X 39 = _ := hI 39 (by kernel_rfl) (by kernel_rfl)
    have q := (HB7.out.ext hx).cell 0 _ rfl
    rw [HSV.out] at q
    unfold wpOp
    simp only [ho]
    rw [if_pos (by rfl)]
    left
    rw [frame74]
    go_simp
    refine metK (hK.out ((.slice aS d.S.length cS)) _ (Below.refl _ _) (fun d hd => by cases hd; exact rfl) (hG.put 8 (some 40) _ rfl rfl)) ?_
    simp [frame74, Act.put, *]
   ·obtain rfl := Option.some.inj ho
    have e40 : X 40 = _ := hI 40 (by kernel_rfl) (by kernel_rfl)
    unfold wpOp
    simp only [ho]
    rw [if_pos (by rfl)]
    left
    rw [frame74]
    go_simp
    refine metK (hK.out ((.int .i64 d.S.length)) _ (Below.refl _ _) (fun d hd => by cases hd; exact rfl) (hG.put 9 (some 41) _ rfl rfl)) ?_
    simp [frame74, Act.put, *]
   ·obtain rfl := Option.some.inj ho
    have e41 : X 41 = _ := hI 41 (by kernel_rfl) (by kernel_rfl)
    unfold wpOp
    simp only [ho]
    rw [if_pos (by rfl)]
    left
    rw [frame74]
    go_simp
    have hE : Ext w' (w'.alloc (.map #[] 0)) := (Below.refl _ _).alloc (Nat.le_refl _) _
    have hnew : (w'.alloc (.map #[] 0)).heap[w'.heap.size]? = some (.map #[] 0) := (MapKept.heap_alloc w' _).1
    have hG' := hG.ext hE
    refine metK (hK.out (.map (some w'.heap.size)) _ hE (fun dd hd => by cases hd; exact ⟨w'.heap.size, rfl, hx.size, hnew⟩) ?_) ?_
    ·refine ⟨fun h1 h2 => ?_, fun h => ?_, fun h => ?_, fun h => ?_⟩
     ·have hL6 : L 6 = true := by simpa using h1
      obtain ⟨q, hq, hq2, hq3⟩ := hD 6 38 (by decide) (by kernel_rfl) hL6
      have hlt := (Array.getElem?_eq_some_iff.1 hq3).1
      simp only [putX, hq]
      intro e
      simp at e
      omega
     ·have hl : L 12 = true := by simpa using h
      exact absurd (hdn 12 (by decide) hl 10 (List.contains_iff_mem.1 (by kernel_rfl))) (by rw [hLi]; decide)
     ·have hl : L 13 = true := by simpa using h
      exact absurd (hdn 12 (by decide) (hdn 13 (by decide) hl 12 (List.contains_iff_mem.1 (by kernel_rfl))) 10 (List.contains_iff_mem.1 (by kernel_rfl))) (by rw [hLi]; decide)
     ·have hl : L 14 = true := by simpa using h
      exact absurd (hdn 12 (by decide) (hdn 13 (by decide) (hdn 14 (by decide) hl 13 (List.contains_iff_mem.1 (by kernel_rfl))) 12 (List.contains_iff_mem.1 (by kernel_rfl))) 10 (List.contains_iff_mem.1 (by kernel_rfl))) (by rw [hLi]; decide)
    ·simp [frame74, Act.put, *]
   ·obtain rfl := Option.some.inj ho
    unfold wpOp
    simp only [ho]
    rw [if_pos (by rfl)]
    left
    rw [frame74]
    go_simp
    refine (Rg.new_fresh [] (.slice none 0 0) 16 w' ⟨by simp, none, 0, rfl, by simp, fun i x hi => by simp at hi⟩ (by omega) (by simp)).mono ?_
    rintro e w9 ⟨r, rfl, hr, E9⟩
    refine metK (hK.out r w9 E9 (fun dd hd => by cases hd; exact Rg.RingNew.mono hr hx.size) ?_) ?_
    ·have hG' := hG.ext E9
     refine ⟨fun h1 h2 => ?_, fun h => ?_, fun h => ?_, fun h => ?_⟩
     ·simp only [putX]
      exact hG'.ne (by simpa using h1) (by simpa using h2)
     ·have hl : L 12 = true := by simpa using h
      exact absurd (hdn 12 (by decide) hl 11 (List.contains_iff_mem.1 (by kernel_rfl))) (by rw [hLi]; decide)
     ·have hl : L 13 = true := by simpa using h
      exact absurd (hdn 12 (by decide) (hdn 13 (by decide) hl 12 (List.contains_iff_mem.1 (by kernel_rfl))) 11 (List.contains_iff_mem.1 (by kernel_rfl))) (by rw [hLi]; decide)
     ·have hl : L 14 = true := by simpa using h
      exact absurd (hdn 12 (by decide) (hdn 13 (by decide) (hdn 14 (by decide) hl 13 (List.contains_iff_mem.1 (by kernel_rfl))) 12 (List.contains_iff_mem.1 (by kernel_rfl))) 11 (List.contains_iff_mem.1 (by kernel_rfl))) (by rw [hLi]; decide)
    ·simp [frame74, Act.put, *]
   ·obtain rfl := Option.some.inj ho
    have e32 : X 32 = _ := hI 32 (by kernel_rfl) (by kernel_rfl)
    have e33 : X 33 = _ := hI 33 (by kernel_rfl) (by kernel_rfl)
    have e34 : X 34 = _ := hI 34 (by kernel_rfl) (by kernel_rfl)
    have y38 := hI 38 (by kernel_rfl) (by kernel_rfl)
    have y42 := hI 42 (by kernel_rfl) (by kernel_rfl)
    have y43 := hI 43 (by kernel_rfl) (by kernel_rfl)
    obtain ⟨qa, ea, -, -⟩ := y38
    obtain ⟨qb, eb, -, -⟩ := y42
    obtain ⟨-, -, Bn, an, cn, ec, -⟩ := y43
    unfold wpOp
    simp only [ho]
    rw [if_pos (by rfl)]
    left
    rw [frame74]
    simp only [ea, eb, ec]
    go_simp
    refine metK (hK.out (.agg #[.int .i64 ver, d.sv, d.ev, d.rv, d.tv, .int .i64 d.w0, .int .i64 d.w1, .int .i64 d.w2, .int .i64 d.w3, .int .i64 d.w4, .int .i64 d.w5, .int .i64 d.w6, .int .i64 d.panic, .int .i64 d.low, .int .i64 d.high, .int .i64 d.wait, .int .i64 d.hop, .int .i64 d.life, .int .i64 d.purse, .int .i64 d.horizon, .int .i64 d.sample, (.pointer (some ⟨bt, 0, none⟩)), .map (some qa), .map (some qb), .pointer (some ⟨Bn, 0, none⟩)]) _ (Below.refl _ _) (fun dd hd => by cases hd; exact trivial) ?_) ?_
    ·refine ⟨fun h1 h2 => ?_, fun h => ?_, fun h => ?_, fun h => ?_⟩
     ·simp only [putX]
      exact hG.ne (by simpa using h1) (by simpa using h2)
     ·simp only [putX]
      show Value.agg _ = Value.agg (snapV ver d (.pointer (some ⟨bt, 0, none⟩)) (X 38) (X 42) (X 43)).toArray
      rw [ea, eb, ec]
      rfl
     ·have hl : L 13 = true := by simpa using h
      exact absurd (hdn 13 (by decide) hl 12 (List.contains_iff_mem.1 (by kernel_rfl))) (by rw [hLi]; decide)
     ·have hl : L 14 = true := by simpa using h
      exact absurd (hdn 13 (by decide) (hdn 14 (by decide) hl 13 (List.contains_iff_mem.1 (by kernel_rfl))) 12 (List.contains_iff_mem.1 (by kernel_rfl))) (by rw [hLi]; decide)
    ·simp [frame74, Act.put, *]
   ·obtain rfl := Option.some.inj ho
    have y44 := hI 44 (by kernel_rfl) (by kernel_rfl)
    have hb12 := hG.bl (hLb 12 (List.contains_iff_mem.1 (by kernel_rfl)))
    obtain ⟨qa, ea, -, -⟩ := hD 6 38 (by decide) (by kernel_rfl) (hdn 12 (by decide) (hLb 12 (List.contains_iff_mem.1 (by kernel_rfl))) 6 (List.contains_iff_mem.1 (by kernel_rfl)))
    obtain ⟨qb, eb, -, -⟩ := hD 10 42 (by decide) (by kernel_rfl) (hdn 12 (by decide) (hLb 12 (List.contains_iff_mem.1 (by kernel_rfl))) 10 (List.contains_iff_mem.1 (by kernel_rfl)))
    obtain ⟨-, -, Bn, an, cn, ec, -⟩ := hD 11 43 (by decide) (by kernel_rfl) (hdn 12 (by decide) (hLb 12 (List.contains_iff_mem.1 (by kernel_rfl))) 11 (List.contains_iff_mem.1 (by kernel_rfl)))
    rw [ea, eb, ec] at hb12
    have hb12' : X 44 = .agg #[.int .i64 ver, d.sv, d.ev, d.rv, d.tv, .int .i64 d.w0, .int .i64 d.w1, .int .i64 d.w2, .int .i64 d.w3, .int .i64 d.w4, .int .i64 d.w5, .int .i64 d.w6, .int .i64 d.panic, .int .i64 d.low, .int .i64 d.high, .int .i64 d.wait, .int .i64 d.hop, .int .i64 d.life, .int .i64 d.purse, .int .i64 d.horizon, .int .i64 d.sample, (.pointer (some ⟨bt, 0, none⟩)), .map (some qa), .map (some qb), .pointer (some ⟨Bn, 0, none⟩)] := hb12
    clear hb12
    unfold wpOp
    simp only [ho]
    rw [if_pos (by rfl)]
    left
    rw [frame74]
    simp only [hb12']
    go_simp
    have hE : Ext w' (w'.alloc (.cells #[.int .i64 ver, d.sv, d.ev, d.rv, d.tv, .int .i64 d.w0, .int .i64 d.w1, .int .i64 d.w2, .int .i64 d.w3, .int .i64 d.w4, .int .i64 d.w5, .int .i64 d.w6, .int .i64 d.panic, .int .i64 d.low, .int .i64 d.high, .int .i64 d.wait, .int .i64 d.hop, .int .i64 d.life, .int .i64 d.purse, .int .i64 d.horizon, .int .i64 d.sample, (.pointer (some ⟨bt, 0, none⟩)), .map (some qa), .map (some qb), .pointer (some ⟨Bn, 0, none⟩)] 45)) := (Below.refl _ _).alloc (Nat.le_refl _) _
    have hnew := heap_alloc_new w' (.cells #[.int .i64 ver, d.sv, d.ev, d.rv, d.tv, .int .i64 d.w0, .int .i64 d.w1, .int .i64 d.w2, .int .i64 d.w3, .int .i64 d.w4, .int .i64 d.w5, .int .i64 d.w6, .int .i64 d.panic, .int .i64 d.low, .int .i64 d.high, .int .i64 d.wait, .int .i64 d.hop, .int .i64 d.life, .int .i64 d.purse, .int .i64 d.horizon, .int .i64 d.sample, (.pointer (some ⟨bt, 0, none⟩)), .map (some qa), .map (some qb), .pointer (some ⟨Bn, 0, none⟩)] 45)
    have hG' := hG.ext hE
    refine metK (hK.out (.pointer (some ⟨w'.heap.size, 0, none⟩)) _ hE (fun dd hd => by cases hd; exact trivial) ?_) ?_
    ·refine ⟨fun h1 h2 => ?_, fun h => ?_, fun h => ?_, fun h => ?_⟩
     ·simp only [putX]
      exact hG'.ne (by simpa using h1) (by simpa using h2)
     ·simp only [putX]
      exact hG'.bl (by simpa using h)
     ·refine ⟨w'.heap.size, by simp [putX], hx.size, ?_⟩
      simp only [putX]
      show _ = some (Obj.cells (snapV ver d (.pointer (some ⟨bt, 0, none⟩)) (X 38) (X 42) (X 43)).toArray 45 (0, 0))
      rw [ea, eb, ec]
      exact hnew
     ·have hl : L 14 = true := by simpa using h
      exact absurd (hdn 14 (by decide) hl 13 (List.contains_iff_mem.1 (by kernel_rfl))) (by rw [hLi]; decide)
    ·simp [frame74, Act.put, *]
   ·obtain rfl := Option.some.inj ho
    have y45 := hI 45 (by kernel_rfl) (by kernel_rfl)
    unfold wpOp
    simp only [ho]
    rw [if_pos (by rfl)]
    left
    rw [frame74]
    go_simp
    refine metK (hK.out (X 45) _ (Below.refl _ _) (fun dd hd => by cases hd; exact trivial) ?_) ?_
    ·refine ⟨fun h1 h2 => ?_, fun h => ?_, fun h => ?_, fun h => ?_⟩
     ·simp only [putX]
      exact hG.ne (by simpa using h1) (by simpa using h2)
     ·simp only [putX]
      exact hG.bl (by simpa using h)
     ·simp only [putX]
      exact hG.bx (by simpa using h)
     ·simp [putX]
    ·simp [frame74, Act.put, *]
  ·intro L X w' hx hL hD hG
   have y10 := hD 14 10 (by decide) (by kernel_rfl)
   have e32 : X 32 = (.int .i64 ver) := hD 0 32 (by decide) (by kernel_rfl)
   have e33 : X 33 = (.agg #[d.sv, d.ev, d.rv, d.tv, .int .i64 d.w0, .int .i64 d.w1, .int .i64 d.w2, .int .i64 d.w3, .int .i64 d.w4, .int .i64 d.w5, .int .i64 d.w6, .int .i64 d.panic, .int .i64 d.low, .int .i64 d.high, .int .i64 d.wait, .int .i64 d.hop, .int .i64 d.life, .int .i64 d.purse, .int .i64 d.horizon, .int .i64 d.sample]) := hD 1 33 (by decide) (by kernel_rfl)
   have e34 : X 34 = (.pointer (some ⟨bt, 0, none⟩)) := hD 2 34 (by decide) (by kernel_rfl)
   have e35 : X 35 = (.pointer (some ⟨b7, 0, none⟩)) := hD 3 35 (by decide) (by kernel_rfl)
   have e36 : X 36 = (.slice aS d.S.length cS) := hD 4 36 (by decide) (by kernel_rfl)
   have e37 : X 37 = (.int .i64 d.S.length) := hD 5 37 (by decide) (by kernel_rfl)
   have y38 := hD 6 38 (by decide) (by kernel_rfl)
   have e39 : X 39 = (.pointer (some ⟨b7, 0, none⟩)) := hD 7 39 (by decide) (by kernel_rfl)
   have e40 : X 40 = (.slice aS d.S.length cS) := hD 8 40 (by decide) (by kernel_rfl)
   have e41 : X 41 = (.int .i64 d.S.length) := hD 9 41 (by decide) (by kernel_rfl)
   have y42 := hD 10 42 (by decide) (by kernel_rfl)
   have y43 := hD 11 43 (by decide) (by kernel_rfl)
   have y44 := hD 12 44 (by decide) (by kernel_rfl)
   have y45 := hD 13 45 (by decide) (by kernel_rfl)
   clear hD
   simp only [overF, List.foldl_cons, List.foldl_nil, List.setIfInBounds_toArray, List.set_cons_succ, List.set_cons_zero, e32, e33, e34, e35, e36, e37, e39, e40, e41]
   obtain ⟨qa, ea, ha1, ha2⟩ := y38
   obtain ⟨qb, eb, hb1, hb2⟩ := y42
   have hne := hG.ne (hL 6 (by decide)) (hL 10 (by decide))
   obtain ⟨bq, eq, hq1, hq2⟩ := hG.bx (hL 13 (by decide))
   have hX10 := (hG.asg (hL 14 (by decide))).trans eq
   have hqr := y43
   obtain ⟨-, -, Bn, an, cn, ec, -⟩ := y43
   rw [ea, eb, ec] at hq2
   rw [ea, eb] at hne
   rw [ec] at hqr
   have hne' : qa ≠ qb := fun e => hne (by rw [e])
   simp only [ea, eb, ec, hX10]
   have HQR := hide (Rg.RingNew.mono hqr HX.out.size)
   have hxw := HX.out.size
   generalize w' = W5 at *
   have hns : NewS w W5 bq ver d bt qa qb (.pointer (some ⟨Bn, 0, none⟩)) Rs b7 0 :=
    ⟨HX.out.trans hx, Nat.le_trans hxw hq1, Nat.le_trans hxw ha1, Nat.le_trans hxw hb1, hne', hq2, HOD.out.ext hx, HTAB.out.ext hx, HB7.out.ext hx, mapV_empty _ _ ha2, ⟨fun _ => none, mapV_empty _ _ hb2, fun _ => rfl, fun id v h => by cases h⟩, HQR.out⟩
   have HNS := hide hns
   clear hns ha1 ha2 hb1 hb2 hne hne' hq1 hq2 hG hL hX10 ea eb ec eq HQR hqr hx HB7 HOD HTAB HX hxw e32 e33 e34 e35 e36 e37 e39 e40 e41 y10 y44 y45
   have q0 : W5.cell? ⟨b7, 0, none⟩ = some (.slice aS d.S.length cS) := by have h := HNS.out.bx.cell 0 _ rfl; rw [HSV.out] at h; exact h
   have hsl : d.S.length ≤ 10 := (chkC_ends HDZ.out).1
   go_wp2_with fail
   clear q0
   go_loopw [49] (fun v49 wr => ∃ k : Nat, v49 = .int .i64 k ∧ k ≤ d.S.length ∧ Hid (NewS w wr bq ver d bt qa qb (.pointer (some ⟨Bn, 0, none⟩)) Rs b7 k)) (fun i _ => d.S.length - (intOf i).toNat)
   case atStart => exact ⟨0, rfl, Nat.zero_le _, HNS.out⟩
   case round =>
    clear HNS
    obtain ⟨k, rfl, hk, hns⟩ := hrel
    have HNS := hide hns.out
    clear hns
    generalize wr = wo at *
    by_cases hlt : k < d.S.length
    ·have hltz : (k : Int) < d.S.length := by omega
     have hwk : IntKind.i64.wrap ((k : Int) + 1) = ((k + 1 : Nat) : Int) := by rw [IntKind.wrap_i64]; omega
     have hown := HNS.out.own.s
     rw [HSV.out] at hown
     obtain ⟨g, cp, hg, hcp⟩ := owns_form hown (by omega)
     cases hg
     obtain ⟨ka, kc, hkv⟩ := owns_shape (HNS.out.own.k d.S[k] (List.getElem_mem hlt))
     have hrow := fun j u hu => (cell_row encV_len hown k hlt j u hu).1
     have hsid : I64 d.S[k].id := by have := svcs_in (chkC_ends HDZ.out).2.2.2.1 (List.getElem_mem hlt); constructor <;> omega
     obtain ⟨s, hs⟩ : ∃ s, d.S[k] = s := ⟨_, rfl⟩
     simp only [hs] at hrow hkv hsid
     have HSK := hide hs
     obtain ⟨sid, skv, sK, swork, sslots, squeue, sbal, swarm⟩ := s
     simp only [] at hkv hsid
     subst hkv
     have HKI := hide (keyIn hsid)
     have d0 : wo.cell? ⟨g, k * 7, none⟩ = some (.int .i64 sid) := hrow 0 _ rfl
     have d1 : wo.cell? ⟨g, k * 7 + 1, none⟩ = some (.slice ka sK.length kc) := hrow 1 _ rfl
     have d2 : wo.cell? ⟨g, k * 7 + 2, none⟩ = some (.int .i64 swork) := hrow 2 _ rfl
     have d3 : wo.cell? ⟨g, k * 7 + 3, none⟩ = some (.int .i64 sslots) := hrow 3 _ rfl
     have d4 : wo.cell? ⟨g, k * 7 + 4, none⟩ = some (.int .i64 squeue) := hrow 4 _ rfl
     have d5 : wo.cell? ⟨g, k * 7 + 5, none⟩ = some (.int .i64 sbal) := hrow 5 _ rfl
     have d6 : wo.cell? ⟨g, k * 7 + 6, none⟩ = some (.int .i64 swarm) := hrow 6 _ rfl
     have HWK := hide hwk
     clear hrow hown hs hsid hwk
     have hEx : Ext wo (wo.alloc (.cells #[.int .i64 sid, .slice ka sK.length kc, .int .i64 swork, .int .i64 sslots, .int .i64 squeue, .int .i64 sbal, .int .i64 swarm] 71)) := (Below.refl _ _).alloc (Nat.le_refl _) _
     have hbn := heap_alloc_new wo (.cells #[.int .i64 sid, .slice ka sK.length kc, .int .i64 swork, .int .i64 sslots, .int .i64 squeue, .int .i64 sbal, .int .i64 swarm] 71)
     go_upto_region 12 with (fail)
     clear d0 d1 d2 d3 d4 d5 d6
     generalize wo.alloc (.cells #[.int .i64 sid, .slice ka sK.length kc, .int .i64 swork, .int .i64 sslots, .int .i64 squeue, .int .i64 sbal, .int .i64 swarm] 71) = W1 at hEx hbn ⊢
     generalize wo.heap.size = b12 at hbn ⊢
     have HS1 := hide (HNS.out.keep hEx)
     have hcellB : ∀ X, Ext W1 X → X.cell? ⟨b12, 0, none⟩ = some (.int .i64 sid) ∧ X.cell? ⟨b12, 1, none⟩ = some (.slice ka sK.length kc) ∧ X.cell? ⟨b12, 2, none⟩ = some (.int .i64 swork) ∧ X.cell? ⟨b12, 3, none⟩ = some (.int .i64 sslots) ∧ X.cell? ⟨b12, 4, none⟩ = some (.int .i64 squeue) ∧ X.cell? ⟨b12, 5, none⟩ = some (.int .i64 sbal) ∧ X.cell? ⟨b12, 6, none⟩ = some (.int .i64 swarm) := fun X hX => by
      have hb := (hX.block b12 (Array.getElem?_eq_some_iff.1 hbn).1).trans hbn
      simp [World.cell?, hb]
     have CellB := hide hcellB
     have HBN := hide hbn
     clear hcellB hbn hEx HNS
     refine wp_region_rw 74 [7] [53, 54, 55, 56, 57, 58, 59] (PhM W1 qa (k + 1) (fun z => if z = sid then some (.agg #[.int .i64 sid, .slice ka sK.length kc, .int .i64 swork, .int .i64 sslots, .int .i64 squeue, .int .i64 sbal, .int .i64 swarm]) else svcF (d.S.take k) z)) (fun (t : Nat) (wI : World) (v : Value) => match t with | 53 => v = (.pointer (some ⟨bq, 0, none⟩)) | 54 => v = (.pointer (some ⟨bq, 0, none⟩)) | 55 => v = (.pointer (some ⟨bq, 22, none⟩)) | 56 => v = (.map (some qa)) | 57 => v = (.pointer (some ⟨b12, 0, none⟩)) | 58 => v = (.int .i64 sid) | 59 => v = (.agg #[.int .i64 sid, .slice ka sK.length kc, .int .i64 swork, .int .i64 sslots, .int .i64 squeue, .int .i64 sbal, .int .i64 swarm]) | _ => True) (fun _ _ => True) (by kernel_rfl) rfl (by kernel_rfl) (by kernel_rfl) (by kernel_rfl) (by kernel_rfl) ?_ ?_ ?_ ?_ ?_ ?_ ?_
     ·intro w' w'' h
      trivial
     ·intro t w' w'' v hR hv
      exact hv
     ·intro vs w' w'' h e
      exact h.keep e
     ·exact (Below.refl _ _).drew
     ·intro i o ho hmi vs X w' hpk hph hX hI hF K hK
      have hin : i < 8 := (Array.getElem?_eq_some_iff.1 ho).1
      have hi : i = 0 ∨ i = 1 ∨ i = 2 ∨ i = 3 ∨ i = 4 ∨ i = 5 ∨ i = 6 ∨ i = 7 := by omega
      rcases hi with rfl | rfl | rfl | rfl | rfl | rfl | rfl | rfl
      ·obtain rfl := Option.some.inj ho
       have e10 : X 10 = (.pointer (some ⟨bq, 0, none⟩)) := hF 10 (by omega) (by kernel_rfl)
       unfold wpOp
       simp only [ho]
       rw [if_pos (by rfl)]
       left
       rw [frame74]
       go_simp
       refine metK (hK.out ((.pointer (some ⟨bq, 0, none⟩))) _ (Below.refl _ _) (fun d hd => by cases hd; exact rfl)) ?_
       simp [frame74, Act.put, *]
      ·obtain rfl := Option.some.inj ho
       have e53 : X 53 = _ := hI 53 (by kernel_rfl) (by kernel_rfl)
       unfold wpOp
       simp only [ho]
       rw [if_pos (by rfl)]
       left
       rw [frame74]
       go_simp
       refine metK (hK.out ((.pointer (some ⟨bq, 0, none⟩))) _ (Below.refl _ _) (fun d hd => by cases hd; exact rfl)) ?_
       simp [frame74, Act.put, *]
      ·obtain rfl := Option.some.inj ho
       have e54 : X 54 = _ := hI 54 (by kernel_rfl) (by kernel_rfl)
       unfold wpOp
       simp only [ho]
       rw [if_pos (by rfl)]
       left
       rw [frame74]
       go_simp
       refine metK (hK.out ((.pointer (some ⟨bq, 22, none⟩))) _ (Below.refl _ _) (fun d hd => by cases hd; exact rfl)) ?_
       simp [frame74, Act.put, *]
      ·obtain rfl := Option.some.inj ho
       have e55 : X 55 = _ := hI 55 (by kernel_rfl) (by kernel_rfl)
       have hx := hph.x ((hpk 0 (by decide)).2 (by kernel_rfl))
       have q22 : w'.cell? ⟨bq, 22, none⟩ = some (.map (some qa)) := (HS1.out.keep hx).box.cell 22 _ rfl
       unfold wpOp
       simp only [ho]
       rw [if_pos (by rfl)]
       left
       rw [frame74]
       go_simp
       refine metK (hK.out ((.map (some qa))) _ (Below.refl _ _) (fun d hd => by cases hd; exact rfl)) ?_
       simp [frame74, Act.put, *]
      ·obtain rfl := Option.some.inj ho
       have e12 : X 12 = (.pointer (some ⟨b12, 0, none⟩)) := hF 12 (by omega) (by kernel_rfl)
       unfold wpOp
       simp only [ho]
       rw [if_pos (by rfl)]
       left
       rw [frame74]
       go_simp
       refine metK (hK.out ((.pointer (some ⟨b12, 0, none⟩))) _ (Below.refl _ _) (fun d hd => by cases hd; exact rfl)) ?_
       simp [frame74, Act.put, *]
      ·obtain rfl := Option.some.inj ho
       have e57 : X 57 = _ := hI 57 (by kernel_rfl) (by kernel_rfl)
       have hx := hph.x ((hpk 0 (by decide)).2 (by kernel_rfl))
       have r0 := (CellB.out w' hx).1
       unfold wpOp
       simp only [ho]
       rw [if_pos (by rfl)]
       left
       rw [frame74]
       go_simp
       refine metK (hK.out ((.int .i64 sid)) _ (Below.refl _ _) (fun d hd => by cases hd; exact rfl)) ?_
       simp [frame74, Act.put, *]
      ·obtain rfl := Option.some.inj ho
       have e12 : X 12 = (.pointer (some ⟨b12, 0, none⟩)) := hF 12 (by omega) (by kernel_rfl)
       have hx := hph.x ((hpk 0 (by decide)).2 (by kernel_rfl))
       have r0 := (CellB.out w' hx).1
       have r1 := (CellB.out w' hx).2.1
       have r2 := (CellB.out w' hx).2.2.1
       have r3 := (CellB.out w' hx).2.2.2.1
       have r4 := (CellB.out w' hx).2.2.2.2.1
       have r5 := (CellB.out w' hx).2.2.2.2.2.1
       have r6 := (CellB.out w' hx).2.2.2.2.2.2
       unfold wpOp
       simp only [ho]
       rw [if_pos (by rfl)]
       left
       rw [frame74]
       go_simp
       refine metK (hK.out ((.agg #[.int .i64 sid, .slice ka sK.length kc, .int .i64 swork, .int .i64 sslots, .int .i64 squeue, .int .i64 sbal, .int .i64 swarm])) _ (Below.refl _ _) (fun d hd => by cases hd; exact rfl)) ?_
       simp [frame74, Act.put, *]
      ·exact absurd hmi (by decide)
     ·intro i o ho hmi vs X w' hqi hql hph hX hI hF K hK
      rcases vs with _ | ⟨v0, _⟩
      ·obtain rfl : 7 = i := hqi
       obtain rfl := Option.some.inj ho
       have e56 : X 56 = _ := hI 56 (by kernel_rfl) (by kernel_rfl)
       have e58 : X 58 = _ := hI 58 (by kernel_rfl) (by kernel_rfl)
       have e59 : X 59 = _ := hI 59 (by kernel_rfl) (by kernel_rfl)
       have hx : Ext W1 w' := hph
       unfold wpOp
       simp only [ho]
       rw [if_pos (by rfl)]
       left
       rw [frame74]
       refine wp_mv_put (.tmp 56) (.tmp 58) (.tmp 59) 41 rfl ((HS1.out.keep hx).sm) intLit_inj keyedI Tryz.underlying41 (by unfold maxLen; omega) (by simp [Act.eval, *]) (.int .i64 sid) (.agg #[.int .i64 sid, .slice ka sK.length kc, .int .i64 swork, .int .i64 sslots, .int .i64 squeue, .int .i64 sbal, .int .i64 swarm]) (by simp [Act.eval, *]) (by simp [Act.eval, *]) (y := sid) HKI.out (fun w9 hm9 ht9 => ?_)
       refine metK (hK.out undef w9 ⟨w', w9, hx, ht9, hm9, Below.refl _ _⟩ trivial) ?_
       simp [frame74, Act.put, *]
      ·simp at hql <;> omega
     ·intro vs X w' hlen hph hX hI
      have e53 : X 53 = _ := hI 53 (by omega) (by kernel_rfl) (by kernel_rfl)
      have e54 : X 54 = _ := hI 54 (by omega) (by kernel_rfl) (by kernel_rfl)
      have e55 : X 55 = _ := hI 55 (by omega) (by kernel_rfl) (by kernel_rfl)
      have e56 : X 56 = _ := hI 56 (by omega) (by kernel_rfl) (by kernel_rfl)
      have e57 : X 57 = _ := hI 57 (by omega) (by kernel_rfl) (by kernel_rfl)
      have e58 : X 58 = _ := hI 58 (by omega) (by kernel_rfl) (by kernel_rfl)
      have e59 : X 59 = _ := hI 59 (by omega) (by kernel_rfl) (by kernel_rfl)
      rcases vs with _ | ⟨v0, _ | ⟨vz, vs⟩⟩
      ·simp at hlen
      rotate_left
      ·simp at hlen
      clear hX hI hlen
      simp only [overF, List.foldl_cons, List.foldl_nil, List.setIfInBounds_toArray, List.set_cons_succ, List.set_cons_zero, e53, e54, e55, e56, e57, e58, e59]
      obtain ⟨w8, w9, E8, ht, hm, E9⟩ := hph
      have hnt := ((HS1.out.keep E8).putS (svcs_nodup (chkC_ends HDZ.out).2.2.2.1) hlt ht (by rw [HSK.out]; exact hm)).keep E9
      have hb2 := (E9.block b12 (Array.getElem?_eq_some_iff.1 (cells_keepM (turned_keeps ht) (HS1.out.keep E8).sm.ofM ((E8.block b12 (Array.getElem?_eq_some_iff.1 HBN.out).1).trans HBN.out))).1).trans (cells_keepM (turned_keeps ht) (HS1.out.keep E8).sm.ofM ((E8.block b12 (Array.getElem?_eq_some_iff.1 HBN.out).1).trans HBN.out))
      have HT := hide hnt
      generalize w' = W2 at *
      have hcc : ∀ X, Ext W2 X → X.cell? ⟨b12, 0, none⟩ = some (.int .i64 sid) := fun X hX => by
       have hb := (hX.block b12 (Array.getElem?_eq_some_iff.1 hb2).1).trans hb2
       simp [World.cell?, hb]
      have CellC := hide hcc
      obtain ⟨g0, r1, r2, r3⟩ := hnt.rm
      have HR1 := hide r1
      have HR2 := hide r2
      have HR3 := hide r3
      have hfew : d.E.length ≤ 19 := by rw [core_E HC.out]; exact hE HZ.out
      have HFEW := hide hfew
      have hlen : (endsAt d.E sid).length ≤ 19 := by unfold endsAt; rw [(srtE_perm _).length_eq]; exact Nat.le_trans (List.length_filter_le _ _) hfew
      have HLEN := hide (Nat.le_trans hlen (by decide) : (endsAt d.E sid).length ≤ 1000000)
      have HLEN2 := hide (show (idsAt d.E sid).length ≤ 1000 by unfold idsAt; rw [List.length_map]; omega)
      clear hnt hb2 hcc r1 r2 r3 hfew hlen hm ht E8 E9 HS1 CellB HBN e53 e54 e55 e56 e57 e58 e59
      go_upto_region 13 with (fail)
      refine wp_region_rw 74 [9, 10, 11, 12] [60, 61, 62, 63, 64, 65, 66, 67, 68, 69, 70, 71] (PhR W2 qb k (endsAt d.E sid) (Rg.pointsOf 16 (idsAt d.E sid)) (Rg.ends (idsAt d.E sid)).length sid g0) (fun (t : Nat) (wI : World) (v : Value) => match t with | 60 => v = (.pointer (some ⟨bq, 0, none⟩)) | 61 => v = (.pointer (some ⟨bq, 0, none⟩)) | 62 => v = (.pointer (some ⟨bq, 23, none⟩)) | 63 => v = (.map (some qb)) | 64 => v = (.pointer (some ⟨b12, 0, none⟩)) | 65 => v = (.int .i64 sid) | 66 => v = (.pointer (some ⟨bq, 0, none⟩)) | 67 => v = (.pointer (some ⟨b12, 0, none⟩)) | 68 => v = (.int .i64 sid) | _ => True) (fun _ _ => True) (by kernel_rfl) rfl (by kernel_rfl) (by kernel_rfl) (by kernel_rfl) (by kernel_rfl) ?_ ?_ ?_ ?_ ?_ ?_ ?_
      ·intro w' w'' h
       trivial
      ·intro t w' w'' v hR hv
       exact hv
      ·intro vs w' w'' h e
       exact h.keep e
      ·exact (Below.refl _ _).drew
      ·intro i o ho hmi vs X w' hpk hph hX hI hF K hK
       have hin : i < 13 := (Array.getElem?_eq_some_iff.1 ho).1
       have hi : i = 0 ∨ i = 1 ∨ i = 2 ∨ i = 3 ∨ i = 4 ∨ i = 5 ∨ i = 6 ∨ i = 7 ∨ i = 8 ∨ i = 9 ∨ i = 10 ∨ i = 11 ∨ i = 12 := by omega
       rcases hi with rfl | rfl | rfl | rfl | rfl | rfl | rfl | rfl | rfl | rfl | rfl | rfl | rfl
       ·obtain rfl := Option.some.inj ho
        have e10 : X 10 = (.pointer (some ⟨bq, 0, none⟩)) := hF 10 (by omega) (by kernel_rfl)
        unfold wpOp
        simp only [ho]
        rw [if_pos (by rfl)]
        left
        rw [frame74]
        go_simp
        refine metK (hK.out ((.pointer (some ⟨bq, 0, none⟩))) _ (Below.refl _ _) (fun d hd => by cases hd; exact rfl)) ?_
        simp [frame74, Act.put, *]
       ·obtain rfl := Option.some.inj ho
        have e60 : X 60 = _ := hI 60 (by kernel_rfl) (by kernel_rfl)
        unfold wpOp
        simp only [ho]
        rw [if_pos (by rfl)]
        left
        rw [frame74]
        go_simp
        refine metK (hK.out ((.pointer (some ⟨bq, 0, none⟩))) _ (Below.refl _ _) (fun d hd => by cases hd; exact rfl)) ?_
        simp [frame74, Act.put, *]
       ·obtain rfl := Option.some.inj ho
        have e61 : X 61 = _ := hI 61 (by kernel_rfl) (by kernel_rfl)
        unfold wpOp
        simp only [ho]
        rw [if_pos (by rfl)]
        left
        rw [frame74]
        go_simp
        refine metK (hK.out ((.pointer (some ⟨bq, 23, none⟩))) _ (Below.refl _ _) (fun d hd => by cases hd; exact rfl)) ?_
        simp [frame74, Act.put, *]
       ·obtain rfl := Option.some.inj ho
        have e62 : X 62 = _ := hI 62 (by kernel_rfl) (by kernel_rfl)
        have hx := hph.x (Nat.le_trans ((hpk 3 (by decide)).2 (by kernel_rfl)) (by decide))
        have q23 : w'.cell? ⟨bq, 23, none⟩ = some (.map (some qb)) := (HT.out.keep hx).box.cell 23 _ rfl
        unfold wpOp
        simp only [ho]
        rw [if_pos (by rfl)]
        left
        rw [frame74]
        go_simp
        refine metK (hK.out ((.map (some qb))) _ (Below.refl _ _) (fun d hd => by cases hd; exact rfl)) ?_
        simp [frame74, Act.put, *]
       ·obtain rfl := Option.some.inj ho
        have e12 : X 12 = (.pointer (some ⟨b12, 0, none⟩)) := hF 12 (by omega) (by kernel_rfl)
        unfold wpOp
        simp only [ho]
        rw [if_pos (by rfl)]
        left
        rw [frame74]
        go_simp
        refine metK (hK.out ((.pointer (some ⟨b12, 0, none⟩))) _ (Below.refl _ _) (fun d hd => by cases hd; exact rfl)) ?_
        simp [frame74, Act.put, *]
       ·obtain rfl := Option.some.inj ho
        have e64 : X 64 = _ := hI 64 (by kernel_rfl) (by kernel_rfl)
        have hx := hph.x (Nat.le_trans ((hpk 3 (by decide)).2 (by kernel_rfl)) (by decide))
        have r0 := CellC.out w' hx
        unfold wpOp
        simp only [ho]
        rw [if_pos (by rfl)]
        left
        rw [frame74]
        go_simp
        refine metK (hK.out ((.int .i64 sid)) _ (Below.refl _ _) (fun d hd => by cases hd; exact rfl)) ?_
        simp [frame74, Act.put, *]
       ·obtain rfl := Option.some.inj ho
        have e10 : X 10 = (.pointer (some ⟨bq, 0, none⟩)) := hF 10 (by omega) (by kernel_rfl)
        unfold wpOp
        simp only [ho]
        rw [if_pos (by rfl)]
        left
        rw [frame74]
        go_simp
        refine metK (hK.out ((.pointer (some ⟨bq, 0, none⟩))) _ (Below.refl _ _) (fun d hd => by cases hd; exact rfl)) ?_
        simp [frame74, Act.put, *]
       ·obtain rfl := Option.some.inj ho
        have e12 : X 12 = (.pointer (some ⟨b12, 0, none⟩)) := hF 12 (by omega) (by kernel_rfl)
        unfold wpOp
        simp only [ho]
        rw [if_pos (by rfl)]
        left
        rw [frame74]
        go_simp
        refine metK (hK.out ((.pointer (some ⟨b12, 0, none⟩))) _ (Below.refl _ _) (fun d hd => by cases hd; exact rfl)) ?_
        simp [frame74, Act.put, *]
       ·obtain rfl := Option.some.inj ho
        have e67 : X 67 = _ := hI 67 (by kernel_rfl) (by kernel_rfl)
        have hx := hph.x (Nat.le_trans ((hpk 0 (by decide)).2 (by kernel_rfl)) (by decide))
        have r0 := CellC.out w' hx
        unfold wpOp
        simp only [ho]
        rw [if_pos (by rfl)]
        left
        rw [frame74]
        go_simp
        refine metK (hK.out ((.int .i64 sid)) _ (Below.refl _ _) (fun d hd => by cases hd; exact rfl)) ?_
        simp [frame74, Act.put, *]
       ·exact absurd hmi (by decide)
       ·exact absurd hmi (by decide)
       ·exact absurd hmi (by decide)
       ·exact absurd hmi (by decide)
      ·intro i o ho hmi vs X w' hqi hql hph hX hI hF K hK
       rcases vs with _ | ⟨v0, _ | ⟨v1, _ | ⟨v2, _ | ⟨v3, _⟩⟩⟩⟩
       ·obtain rfl : 9 = i := hqi
        obtain rfl := Option.some.inj ho
        have e66 : X 66 = _ := hI 66 (by kernel_rfl) (by kernel_rfl)
        have e68 : X 68 = _ := hI 68 (by kernel_rfl) (by kernel_rfl)
        have hx : Ext W2 w' := hph
        unfold wpOp
        simp only [ho]
        rw [if_pos (by rfl)]
        left
        rw [frame74]
        go_simp
        refine (mends_any sid w' (HT.out.keep hx).box (ends_sl (HT.out.keep hx).own) (ends_nodup (chkC_ends HDZ.out).2.2.2.2.1) HFEW.out).mono ?_
        rintro e w9 ⟨v', rfl, h9, E9⟩
        refine metK (hK.out v' w9 ⟨owns_mono h9 hx.size, hx.trans E9⟩ trivial) ?_
        simp [frame74, Act.put, *]
       ·obtain rfl : 10 = i := hqi
        obtain rfl := Option.some.inj ho
        have e69 : X 69 = v0 := hX 0 69 (by simp) (by kernel_rfl)
        obtain ⟨h1, hx⟩ := hph
        unfold wpOp
        simp only [ho]
        rw [if_pos (by rfl)]
        left
        rw [frame74]
        go_simp
        refine (ids_any (endsAt d.E sid) v0 w' (Sl.of_own' encE_len h1) HLEN.out).mono ?_
        rintro e w9 ⟨v', rfl, h9, E9⟩
        refine metK (hK.out v' w9 ⟨owns_mono h9 hx.size, hx.trans E9⟩ trivial) ?_
        simp [frame74, Act.put, *]
       ·obtain rfl : 11 = i := hqi
        obtain rfl := Option.some.inj ho
        have e70 : X 70 = v1 := hX 1 70 (by simp) (by kernel_rfl)
        obtain ⟨h1, hx⟩ := hph
        rw [← List.length_map (f := EndD.id)] at h1
        unfold wpOp
        simp only [ho]
        rw [if_pos (by rfl)]
        left
        rw [frame74]
        go_simp
        refine (Rg.new_fresh (idsAt d.E sid) v1 16 w' (Sl.of_own' (enc := encI) (fun _ => rfl) h1) (by omega) HLEN2.out).mono ?_
        rintro e w9 ⟨r, rfl, hr, E9⟩
        refine metK (hK.out r w9 ⟨Rg.RingNew.mono hr hx.size, hx.trans E9⟩ trivial) ?_
        simp [frame74, Act.put, *]
       ·obtain rfl : 12 = i := hqi
        obtain rfl := Option.some.inj ho
        have e63 : X 63 = _ := hI 63 (by kernel_rfl) (by kernel_rfl)
        have e65 : X 65 = _ := hI 65 (by kernel_rfl) (by kernel_rfl)
        have e71 : X 71 = v2 := hX 2 71 (by simp) (by kernel_rfl)
        obtain ⟨h1, hx⟩ := hph
        unfold wpOp
        simp only [ho]
        rw [if_pos (by rfl)]
        left
        rw [frame74]
        refine wp_mv_put (.tmp 63) (.tmp 65) (.tmp 71) 42 rfl (HR1.out.ext hx) intLit_inj keyedI Tryz.underlying42 (by unfold maxLen; omega) (by simp [Act.eval, *]) (.int .i64 sid) v2 (by simp [Act.eval, *]) (by simp [Act.eval, *]) (y := sid) HKI.out (fun w9 hm9 ht9 => ?_)
        refine metK (hK.out undef w9 ⟨w', w9, v2, hx, h1, ht9, hm9, Below.refl _ _⟩ trivial) ?_
        simp [frame74, Act.put, *]
       ·simp at hql <;> omega
      ·intro vs X w' hlen hph hX hI
       have e60 : X 60 = _ := hI 60 (by omega) (by kernel_rfl) (by kernel_rfl)
       have e61 : X 61 = _ := hI 61 (by omega) (by kernel_rfl) (by kernel_rfl)
       have e62 : X 62 = _ := hI 62 (by omega) (by kernel_rfl) (by kernel_rfl)
       have e63 : X 63 = _ := hI 63 (by omega) (by kernel_rfl) (by kernel_rfl)
       have e64 : X 64 = _ := hI 64 (by omega) (by kernel_rfl) (by kernel_rfl)
       have e65 : X 65 = _ := hI 65 (by omega) (by kernel_rfl) (by kernel_rfl)
       have e66 : X 66 = _ := hI 66 (by omega) (by kernel_rfl) (by kernel_rfl)
       have e67 : X 67 = _ := hI 67 (by omega) (by kernel_rfl) (by kernel_rfl)
       have e68 : X 68 = _ := hI 68 (by omega) (by kernel_rfl) (by kernel_rfl)
       rcases vs with _ | ⟨v0, _ | ⟨v1, _ | ⟨v2, _ | ⟨v3, _ | ⟨vz, vs⟩⟩⟩⟩⟩
       ·simp at hlen
       ·simp at hlen
       ·simp at hlen
       ·simp at hlen
       rotate_left
       ·simp at hlen
       have e69 : X 69 = v0 := hX 0 69 (by simp) (by kernel_rfl)
       have e70 : X 70 = v1 := hX 1 70 (by simp) (by kernel_rfl)
       have e71 : X 71 = v2 := hX 2 71 (by simp) (by kernel_rfl)
       clear hX hI hlen
       simp only [overF, List.foldl_cons, List.foldl_nil, List.setIfInBounds_toArray, List.set_cons_succ, List.set_cons_zero, e60, e61, e62, e63, e64, e65, e66, e67, e68, e69, e70, e71]
       obtain ⟨w8, w9, r, E8, hr, ht, hm, E9⟩ := hph
       have hns := ((HT.out.keep E8).putR hlt r (by rw [HSK.out]; exact Rg.RingNew.mono hr HT.out.ext.size) ht (by rw [HSK.out]; exact hm) HR2.out (fun id v hv => (HR3.out id v hv).ext E8)).keep E9
       have HN2 := hide hns
       have hwk := HWK.out
       clear hns hm ht hr E8 E9 HT HR1 HR2 HR3 CellC HWK
       go_wp2
       go_roundw
       case rel => exact ⟨k + 1, by first | rfl | simp, hlt, HN2.out⟩
       case measure => simp [intOf]; omega
    ·obtain rfl : k = d.S.length := by omega
     obtain ⟨g, r1, r2, r3⟩ := HNS.out.rm
     have hsm := HNS.out.sm
     rw [List.take_length] at hsm r2
     have HR := hide (show SnapIs w.heap.size wo bq ver d bt qa qb (.pointer (some ⟨Bn, 0, none⟩)) Rs g from ⟨HNS.out.hb, HNS.out.hqa, HNS.out.hqb, HNS.out.box, HNS.out.own, HNS.out.tab, HRS.out, ⟨_, hsm⟩, ⟨_, r1⟩, r2, r3, HNS.out.nob, HDZ.out, by rw [core_E HC.out]; exact hE HZ.out⟩)
     have HEX := hide HNS.out.ext
     clear r1 r2 r3 hsm HNS
     go_wp2
     go_ret2
     exact ⟨HEX.out, .inr ⟨HZ.out, bq, rfl, d, bt, qa, qb, _, Rs, g, HR.out, HC.out⟩⟩
theorem mnew_any (ver : Int) (B : Nat) (c : ConfD) (w : World) (hm : MaxV w) (hB : B ≤ w.heap.size) (ho : ConfOwn B w c) (hf : ConfFit c) (hE : c.E.length ≤ 19) :
  Calls Tryz.prog 10 #[.int .i64 ver, c.val] w fun e w' => Ext w w' ∧ ((chkC c ≠ 0 ∧ e = .returned (.tuple #[.pointer none, .int .i64 (chkC c)])) ∨ (chkC c = 0 ∧ ∃ b, e = .returned (.tuple #[.pointer (some ⟨b, 0, none⟩), .int .i64 0]) ∧ SnapAt w.heap.size w' b ver c)) :=
 mnew_gen ver B c w hm hB ho hf fun _ => hE
end Go.Proofs.YtkhebanpplokdaaGreatDoor
