/- SnapAsks: its walk (printed by wip/gen_swk.py). -/
import Derived.Test.YtofjcokclegkhaaGreatDoorZss
import Derived.Test.YtofjcokclegkhaaGreatDoorZch
import Derived.Test.YtofjcokclegkhaaGreatDoorZrw
import Derived.BigFrame
import Derived.Lib.Builder
namespace Go.Proofs.YtofjcokclegkhaaGreatDoor
open Go.ChangeShapes Go.WideShapes Go.ChangeAt Go.RowKit Go.Lib Go.Shelf Go.Maps
set_option maxRecDepth 100000 in
theorem frame124 (x : Nat → Value) : frameOf 124 x = #[x 0, x 1, x 2, x 3, x 4, x 5, x 6, x 7, x 8, x 9, x 10, x 11, x 12, x 13, x 14, x 15, x 16, x 17, x 18, x 19, x 20, x 21, x 22, x 23, x 24, x 25, x 26, x 27, x 28, x 29, x 30, x 31, x 32, x 33, x 34, x 35, x 36, x 37, x 38, x 39, x 40, x 41, x 42, x 43, x 44, x 45, x 46, x 47, x 48, x 49, x 50, x 51, x 52, x 53, x 54, x 55, x 56, x 57, x 58, x 59, x 60, x 61, x 62, x 63, x 64, x 65, x 66, x 67, x 68, x 69, x 70, x 71, x 72, x 73, x 74, x 75, x 76, x 77, x 78, x 79, x 80, x 81, x 82, x 83, x 84, x 85, x 86, x 87, x 88, x 89, x 90, x 91, x 92, x 93, x 94, x 95, x 96, x 97, x 98, x 99, x 100, x 101, x 102, x 103, x 104, x 105, x 106, x 107, x 108, x 109, x 110, x 111, x 112, x 113, x 114, x 115, x 116, x 117, x 118, x 119, x 120, x 121, x 122, x 123] := rfl
theorem ringInfo : (Tryz.prog.info? 101).isSome = true := by kernel_rfl
theorem ring_same (q : Addr) (X : World) : (binOp .neq 64 (.pointer (some q)) (.pointer (some q))).run Tryz.prog X = .ok (.bool false) X := by
 obtain ⟨j, hj⟩ := Option.isSome_iff_exists.1 ringInfo
 exact run_neq_ptr_same X q Tryz.underlying64 hj
set_option maxRecDepth 100000 in
set_option maxHeartbeats 16000000 in
theorem asks_walk (L : List Int) (id key : Int) (v : Value) (w : World) (hs : Ints w v L) (hL : ∀ x ∈ L, I64 x) (hid : I64 id) (hkey : 0 ≤ key ∧ key ≤ 18446744073709551615) (hm : MaxV w) :
  Calls Tryz.prog 4 #[v, .int .i64 id, .int .u64 key] w fun e w' => e = .returned (.bool true) ∧ Ext w w' := by
 obtain ⟨cd, hcd1, hcd2⟩ := Tryz.confDesc
 obtain ⟨dv, hdv1, hdv2⟩ := Tryz.svcDesc
 have HMD := hide (made16_any L v w hs hL hm)
 obtain ⟨_, a, cap, rfl⟩ := hs.shape
 have HM := hide hm
 have HID := hide hid
 have HKEY := hide hkey
 clear hs hL hm hid hkey
 go_enter Tryz.func4, Tryz.ntmps4
 go_wp2_with fail
 refine HMD.out.mono ?_
 rintro e W1 ⟨ba, c, B, rfl, hc, ho, hB, hsa, E1⟩
 have G := hide (good_conf hc)
 clear hc HMD
 have hbz := heap_alloc_new W1 (.cells #[.slice none 0 0, .slice none 0 0, .slice none 0 0, .slice none 0 0, .int .i64 0, .int .i64 0, .int .i64 0, .int .i64 0, .int .i64 0, .int .i64 0, .int .i64 0, .int .i64 0, .int .i64 0, .int .i64 0, .int .i64 0, .int .i64 0, .int .i64 0, .int .i64 0, .int .i64 0, .int .i64 0] 30)
 have hxz : Ext W1 (W1.alloc (.cells #[.slice none 0 0, .slice none 0 0, .slice none 0 0, .slice none 0 0, .int .i64 0, .int .i64 0, .int .i64 0, .int .i64 0, .int .i64 0, .int .i64 0, .int .i64 0, .int .i64 0, .int .i64 0, .int .i64 0, .int .i64 0, .int .i64 0, .int .i64 0, .int .i64 0, .int .i64 0, .int .i64 0] 30)) := (Below.refl _ _).alloc (Nat.le_refl _) _
 have hth : (W1.alloc (.cells #[.slice none 0 0, .slice none 0 0, .slice none 0 0, .slice none 0 0, .int .i64 0, .int .i64 0, .int .i64 0, .int .i64 0, .int .i64 0, .int .i64 0, .int .i64 0, .int .i64 0, .int .i64 0, .int .i64 0, .int .i64 0, .int .i64 0, .int .i64 0, .int .i64 0, .int .i64 0, .int .i64 0] 30)).there W1.heap.size 0 20 := fun q hq => by
  rw [Nat.zero_add]
  refine ⟨?_, by simp only [World.frozen?]; rw [hbz]; simp⟩
  simp only [World.cell?, hbz]
  simp [hq]
 go_upto_region 2 with (refine wpList_store_mid rfl 30 (.tmp 8) (.tmp 21) rfl W1.heap.size 0 (encC c).toArray rfl rfl hth Tryz.confSize (all_oneCell_toArray (encC_one' ho)) ?_)
 generalize W1.alloc (.cells #[.slice none 0 0, .slice none 0 0, .slice none 0 0, .slice none 0 0, .int .i64 0, .int .i64 0, .int .i64 0, .int .i64 0, .int .i64 0, .int .i64 0, .int .i64 0, .int .i64 0, .int .i64 0, .int .i64 0, .int .i64 0, .int .i64 0, .int .i64 0, .int .i64 0, .int .i64 0, .int .i64 0] 30) = Wz at hbz hxz hth ⊢
 obtain ⟨b8, hbe⟩ : ∃ b, W1.heap.size = b := ⟨_, rfl⟩
 rw [hbe] at hbz hth ⊢
 have hbb8 : w.heap.size ≤ b8 := by have := (E1).size; omega
 have hrs := World.rangeAt_setCells_same Wz b8 0 (encC c) hth
 obtain ⟨cs, hcs1, hcs2⟩ := setCells_block b8 30 (0, 0) (encC c) 0 Wz _ hbz
 have hk5 := keeps_setCells b8 (encC c) 0 Wz
 show Code.wp _ _ _ _ (Wz.setCells b8 0 (encC c))
 generalize Wz.setCells b8 0 (encC c) = W2 at hrs hk5 hcs1 ⊢
 have HB2 := hide (show BoxC W2 b8 c from BoxC.of_range hcs1 (by rw [hcs2]; rfl) hrs)
 have HX2 := hide (Keeps.ext ((E1).trans hxz) hk5 (fun g hg => by omega))
 have HO2 := hide (((ho).ext hxz).keepT hk5 (OfT.one hbz) (by decide) (by decide) (by decide) (by decide) (by decide) (by decide) (by decide))
 have hGb8 : W1.heap.size ≤ b8 := by omega
 have hEb8 : Ext W1 W2 := ((Keeps.of_ext hxz).trans hk5 : Keeps (fun g => g = b8) W1 W2).below (Nat.le_refl _) (fun g hg => by omega)
 clear hrs hk5 hcs1 hcs2 hbz hxz hth
 have HSA := hide (hsa.ext hEb8)
 clear ho hsa E1 hEb8
 obtain ⟨d, bt, bs, br, nb, Rs, g, hsi, hcd⟩ := HSA.out
 have HCS := hide (core_S hcd)
 have HCE := hide (core_E hcd)
 have HD := hide hsi
 have hns := svcs_nodup (chkC_ends G.out.2.1).2.2.2.1
 have HNS := hide hns
 have HL40 := hide (show c.E.length ≤ 40 from Nat.le_trans G.out.2.2 (by decide))
 have HCHK := hide G.out.2.1
 have HS10 := hide (chkC_ends G.out.2.1).1
 have hzb := around_bd id 6 (by omega)
 have HIZ := hide (show I64 (around id 6) by constructor <;> omega)
 obtain ⟨z, hz⟩ : ∃ z, around id 6 = z := ⟨_, rfl⟩
 rw [hz] at HIZ
 have HZZ := hide hz
 clear hsi HSA hcd hns hzb hz G
 go_wp2_with fail
 refine (around_any id 6 W2 HID.out (by omega)).mono ?_
 rintro e w9 ⟨rfl, rfl⟩
 rw [HZZ.out]
 have hal : Ext W2 (W2.alloc (.cells #[.int .i64 id, .int .i64 z] 3)) := (Below.refl _ _).alloc (Nat.le_refl _) _
 have hlit : Ints (W2.alloc (.cells #[.int .i64 id, .int .i64 z] 3)) (.slice (some ⟨W2.heap.size, 0, none⟩) 2 2) [id, z] := Sl.of_own' (enc := encI) (fun _ => rfl) (World.ownsRow_lit (base := 0) (e := 3) (size := 1) W2 #[.int .i64 id, .int .i64 z] 2 (Nat.zero_le _) (by unfold maxLen; omega) rfl)
 go_upto_region 5 with (fail)
 generalize W2.alloc (.cells #[.int .i64 id, .int .i64 z] 3) = W3 at hal hlit ⊢
 obtain ⟨ai, hai⟩ : ∃ ai : Option Addr, some (⟨W2.heap.size, 0, none⟩ : Addr) = ai := ⟨_, rfl⟩
 rw [hai] at hlit ⊢
 have HIDS := hide hlit
 have HX3 := hide (HX2.out.trans hal)
 have hb8 : ∀ X, Ext W3 X → BoxC X b8 c := fun X hX => HB2.out.ext (hal.trans hX)
 have ho8 : ∀ X, Ext W3 X → ConfOwn w.heap.size X c := fun X hX => HO2.out.ext (hal.trans hX)
 have hdd : ∀ X, Ext W3 X → SnapIs B X ba 3 d bt bs br nb Rs g := fun X hX => HD.out.ext (hal.trans hX)
 have HB8 := hide hb8
 have HO8 := hide ho8
 have HDD := hide hdd
 have hmm : ∀ X, Ext W3 X → MaxV X := fun X hX => HM.out.ext (HX3.out.trans hX)
 have HMM := hide hmm
 have HSZ := hide HX3.out.size
 clear hal hlit hai hb8 ho8 hdd hmm HB2 HO2 HX2 HD
 go_wp2_with fail
 go_loopw [10] (fun v10 wr => ∃ i : Nat, i ≤ 2 ∧ v10 = .int .i64 i ∧ Hid (Ext W3 wr)) (fun i _ => 2 - (intOf i).toNat)
 case atStart => exact ⟨0, by omega, rfl, Below.refl _ _⟩
 case round =>
  obtain ⟨i, hi2, rfl, hx⟩ := hrel
  have HX := hide hx.out
  clear hx
  generalize wr = wo at *
  by_cases hil : i < 2
  ·have hiz : (i : Int) < 2 := by omega
   have hiz0 : (0 : Int) ≤ (i : Int) := by omega
   have hwi : IntKind.i64.wrap ((i : Int) + 1) = ((i + 1 : Nat) : Int) := by rw [IntKind.wrap_i64]; omega
   have HWI := hide hwi
   clear hwi
   obtain ⟨idk, hidk, hik, hci⟩ : ∃ (idk : Int) (_ : I64 idk) (bo : Nat × Nat), ai = some ⟨bo.1, bo.2, none⟩ ∧ ∀ X, Ext W3 X → X.cell? ⟨bo.1, bo.2 + i, none⟩ = some (.int .i64 idk) := by
    obtain ⟨b, off, hba, hbb, hcx⟩ := ints_at HIDS.out i (by simpa using hil)
    refine ⟨[id, z][i]'(by simpa using hil), ?_, (b, off), hba, fun X hX => ?_⟩
    ·have h01 : i = 0 ∨ i = 1 := by omega
     rcases h01 with rfl | rfl
     ·exact HID.out
     ·exact HIZ.out
    ·exact (hX.cell (p := ⟨b, off + i, none⟩) (World.block_lt_of_cell? W3 _ hcx)).trans hcx
   obtain ⟨bi, off⟩ := hik
   simp only [] at hci
   obtain ⟨rfl, hci⟩ := hci
   have HI := hide hidk
   have HCI := hide hci
   have HBASE0 := hide HX.out
   have q := hci _ HX.out
   clear hidk hci
   have hcc := core_there HCS.out idk
   obtain ⟨tb, htb⟩ : ∃ tb, thereB d.S idk = tb := ⟨_, rfl⟩
   rw [htb] at hcc
   have HTC := hide hcc.symm
   have hsc := core_svcAt HCS.out idk
   obtain ⟨sv, hsv⟩ : ∃ sv, svcAt d.S idk = sv := ⟨_, rfl⟩
   rw [hsv] at hsc
   have HSC := hide hsc
   have hte : byId 40 (fun e => e.svc == idk) c.E = endsAt d.E idk := by
    rw [HCE.out]
    exact byId_svc HCHK.out idk
   have hns2 := (HDD.out _ HX.out).nodup
   have hTl : (endsAt d.E idk).length ≤ 19 := by rw [endsAt_len]; exact Nat.le_trans (List.length_filter_le _ _) (HDD.out _ HX.out).few
   have HNE := hide hns2
   obtain ⟨T, hT⟩ : ∃ T, endsAt d.E idk = T := ⟨_, rfl⟩
   rw [hT] at hte hTl
   have HTT := hide hT
   have HTE := hide hte
   have HTL := hide hTl
   clear hcc hsc hte hns2 hTl hT
   go_wp2_with fail
   refine (mservice_any idk wo (HDD.out _ HX.out) HI.out).mono ?_
   rintro e w10 ⟨kv, rfl, hkv, E10⟩
   rw [htb, hsv] at *
   clear htb hsv q
   obtain ⟨ak, ck, rfl⟩ := owns_shape hkv
   obtain ⟨sid, skv, sK, swork, sslots, squeue, sbal, swarm⟩ := sv
   simp only [] at hkv
   have HKV := hide (Sl.of_own' (enc := encS) (fun _ => rfl) hkv)
   have HX10 := hide (HX.out.trans E10)
   clear hkv E10 HX HBASE0
   simp only [SvcD.val]
   have hx11 : Ext w10 (w10.alloc (.cells #[.int .i64 sid, .slice ak sK.length ck, .int .i64 swork, .int .i64 sslots, .int .i64 squeue, .int .i64 sbal, .int .i64 swarm] 38)) := (Below.refl _ _).alloc (Nat.le_refl _) _
   have hbv := heap_alloc_new w10 (.cells #[.int .i64 sid, .slice ak sK.length ck, .int .i64 swork, .int .i64 sslots, .int .i64 squeue, .int .i64 sbal, .int .i64 swarm] 38)
   go_upto_region 9 with (fail)
   generalize w10.alloc (.cells #[.int .i64 sid, .slice ak sK.length ck, .int .i64 swork, .int .i64 sslots, .int .i64 squeue, .int .i64 sbal, .int .i64 swarm] 38) = W11 at hx11 hbv ⊢
   obtain ⟨b11, hb11⟩ : ∃ b, w10.heap.size = b := ⟨_, rfl⟩
   rw [hb11] at hbv ⊢
   have HV11 := hide (show BoxV W11 b11 ⟨sid, .slice ak sK.length ck, sK, swork, sslots, squeue, sbal, swarm⟩ from hbv)
   have HBASE := hide (HX10.out.trans hx11)
   have HKV11 := hide (HKV.out.ext hx11)
   clear hbv hx11 hb11 HX10 HKV
   refine wp_region_rw 124 [] [41, 42, 43, 44, 45, 46, 47, 48] (fun _ w' => Ext W11 w') (fun (t : Nat) (wI : World) (v : Value) => match t with | 41 => v = (.bool tb) | 42 => v = (.agg #[c.sv, c.ev, c.rv, c.tv, .int .i64 c.w0, .int .i64 c.w1, .int .i64 c.w2, .int .i64 c.w3, .int .i64 c.w4, .int .i64 c.w5, .int .i64 c.w6, .int .i64 c.panic, .int .i64 c.low, .int .i64 c.high, .int .i64 c.wait, .int .i64 c.hop, .int .i64 c.life, .int .i64 c.purse, .int .i64 c.horizon, .int .i64 c.sample]) | 43 => v = (.slice (some ⟨bi, off, none⟩) 2 2) | 44 => v = (.int .i64 (i : Int)) | 45 => v = (.pointer (some ⟨bi, off + i, none⟩)) | 46 => v = (.int .i64 idk) | 47 => v = (.bool tb) | 48 => v = (.bool false) | _ => True) (fun w' w'' => Ext w' w'') (by kernel_rfl) rfl (by kernel_rfl) (by kernel_rfl) (by kernel_rfl) (by kernel_rfl) ?_ ?_ ?_ ?_ ?_ ?_ ?_
   ·intro w' w'' h
    exact h
   ·intro t w' w'' v hR hv
    exact hv
   ·intro vs w' w'' h e
    exact Ext.trans (show Ext _ w' from h) e
   ·exact (Below.refl _ _).drew
   ·intro i o ho hmi vs X w' hpk hph hX hI hF K hK
    have hin : i < 8 := (Array.getElem?_eq_some_iff.1 ho).1
    have hi : i = 0 ∨ i = 1 ∨ i = 2 ∨ i = 3 ∨ i = 4 ∨ i = 5 ∨ i = 6 ∨ i = 7 := by omega
    rcases hi with rfl | rfl | rfl | rfl | rfl | rfl | rfl | rfl
    ·obtain rfl := Option.some.inj ho
     have e12 : X 12 = (.bool tb) := hF 12 (by omega) (by kernel_rfl)
     unfold wpOp
     simp only [ho]
     rw [if_pos (by rfl)]
     left
     rw [frame124]
     go_simp
     refine metK (hK.out ((.bool tb)) _ (Below.refl _ _) (fun d hd => by cases hd; exact rfl)) ?_
     simp [frame124, Act.put, *]
    ·obtain rfl := Option.some.inj ho
     have e8 : X 8 = (.pointer (some ⟨b8, 0, none⟩)) := hF 8 (by omega) (by kernel_rfl)
     have hx : Ext W11 w' := hph
     unfold wpOp
     simp only [ho]
     rw [if_pos (by rfl)]
     left
     rw [frame124]
     refine wp_load_mid 30 (.tmp 8) rfl b8 0 e8 (encC c) cd ((HB8.out w' (HBASE.out.trans hx)).range) hcd1 hcd2 Tryz.confSize (metK (hK.out (.agg #[c.sv, c.ev, c.rv, c.tv, .int .i64 c.w0, .int .i64 c.w1, .int .i64 c.w2, .int .i64 c.w3, .int .i64 c.w4, .int .i64 c.w5, .int .i64 c.w6, .int .i64 c.panic, .int .i64 c.low, .int .i64 c.high, .int .i64 c.wait, .int .i64 c.hop, .int .i64 c.life, .int .i64 c.purse, .int .i64 c.horizon, .int .i64 c.sample]) _ (Below.refl _ _) (fun d hd => by cases hd; exact rfl)) ?_)
     rfl
    ·obtain rfl := Option.some.inj ho
     have e9 : X 9 = (.slice (some ⟨bi, off, none⟩) 2 2) := hF 9 (by omega) (by kernel_rfl)
     unfold wpOp
     simp only [ho]
     rw [if_pos (by rfl)]
     left
     rw [frame124]
     go_simp
     refine metK (hK.out ((.slice (some ⟨bi, off, none⟩) 2 2)) _ (Below.refl _ _) (fun d hd => by cases hd; exact rfl)) ?_
     simp [frame124, Act.put, *]
    ·obtain rfl := Option.some.inj ho
     have e10 : X 10 = (.int .i64 (i : Int)) := hF 10 (by omega) (by kernel_rfl)
     unfold wpOp
     simp only [ho]
     rw [if_pos (by rfl)]
     left
     rw [frame124]
     go_simp
     refine metK (hK.out ((.int .i64 (i : Int))) _ (Below.refl _ _) (fun d hd => by cases hd; exact rfl)) ?_
     simp [frame124, Act.put, *]
    ·obtain rfl := Option.some.inj ho
     have e43 : X 43 = (.slice (some ⟨bi, off, none⟩) 2 2) := hI 43 (by kernel_rfl) (by kernel_rfl)
     have e44 : X 44 = (.int .i64 (i : Int)) := hI 44 (by kernel_rfl) (by kernel_rfl)
     unfold wpOp
     simp only [ho]
     rw [if_pos (by rfl)]
     left
     rw [frame124]
     go_simp
     refine metK (hK.out ((.pointer (some ⟨bi, off + i, none⟩))) _ (Below.refl _ _) (fun d hd => by cases hd; exact rfl)) ?_
     simp [frame124, Act.put, *]
    ·obtain rfl := Option.some.inj ho
     have e45 : X 45 = (.pointer (some ⟨bi, off + i, none⟩)) := hI 45 (by kernel_rfl) (by kernel_rfl)
     have hx : Ext W11 w' := hph
     have q := HCI.out w' (HBASE.out.trans hx)
     unfold wpOp
     simp only [ho]
     rw [if_pos (by rfl)]
     left
     rw [frame124]
     go_simp
     refine metK (hK.out ((.int .i64 idk)) _ (Below.refl _ _) (fun d hd => by cases hd; exact rfl)) ?_
     simp [frame124, Act.put, *]
    ·obtain rfl := Option.some.inj ho
     have e42 : X 42 = (.agg #[c.sv, c.ev, c.rv, c.tv, .int .i64 c.w0, .int .i64 c.w1, .int .i64 c.w2, .int .i64 c.w3, .int .i64 c.w4, .int .i64 c.w5, .int .i64 c.w6, .int .i64 c.panic, .int .i64 c.low, .int .i64 c.high, .int .i64 c.wait, .int .i64 c.hop, .int .i64 c.life, .int .i64 c.purse, .int .i64 c.horizon, .int .i64 c.sample]) := hI 42 (by kernel_rfl) (by kernel_rfl)
     have e46 : X 46 = (.int .i64 idk) := hI 46 (by kernel_rfl) (by kernel_rfl)
     have hx : Ext W11 w' := hph
     unfold wpOp
     simp only [ho]
     rw [if_pos (by rfl)]
     left
     rw [frame124]
     go_simp
     refine (there16_any c idk w' (HO8.out w' (HBASE.out.trans hx)).ok.1).mono ?_
     rintro e w9 ⟨rfl, E9⟩
     rw [HTC.out]
     refine metK (hK.out (.bool tb) w9 E9 (fun d hd => by cases hd; rfl)) ?_
     simp [frame124, Act.put, *]
    ·obtain rfl := Option.some.inj ho
     have e41 : X 41 = (.bool tb) := hI 41 (by kernel_rfl) (by kernel_rfl)
     have e47 : X 47 = (.bool tb) := hI 47 (by kernel_rfl) (by kernel_rfl)
     unfold wpOp
     simp only [ho]
     rw [if_pos (by rfl)]
     left
     rw [frame124]
     go_simp
     refine metK (hK.out ((.bool false)) _ (Below.refl _ _) (fun d hd => by cases hd; exact rfl)) ?_
     simp [frame124, Act.put, *]
   ·intro i o ho hmi vs X w' hqi hql hph hX hI hF K hK
    rcases vs with _
    ·simp at hql <;> omega
   ·intro vs X w' hlen hph hX hI
    have e41 : X 41 = (.bool tb) := hI 41 (by omega) (by kernel_rfl) (by kernel_rfl)
    have e42 : X 42 = (.agg #[c.sv, c.ev, c.rv, c.tv, .int .i64 c.w0, .int .i64 c.w1, .int .i64 c.w2, .int .i64 c.w3, .int .i64 c.w4, .int .i64 c.w5, .int .i64 c.w6, .int .i64 c.panic, .int .i64 c.low, .int .i64 c.high, .int .i64 c.wait, .int .i64 c.hop, .int .i64 c.life, .int .i64 c.purse, .int .i64 c.horizon, .int .i64 c.sample]) := hI 42 (by omega) (by kernel_rfl) (by kernel_rfl)
    have e43 : X 43 = (.slice (some ⟨bi, off, none⟩) 2 2) := hI 43 (by omega) (by kernel_rfl) (by kernel_rfl)
    have e44 : X 44 = (.int .i64 (i : Int)) := hI 44 (by omega) (by kernel_rfl) (by kernel_rfl)
    have e45 : X 45 = (.pointer (some ⟨bi, off + i, none⟩)) := hI 45 (by omega) (by kernel_rfl) (by kernel_rfl)
    have e46 : X 46 = (.int .i64 idk) := hI 46 (by omega) (by kernel_rfl) (by kernel_rfl)
    have e47 : X 47 = (.bool tb) := hI 47 (by omega) (by kernel_rfl) (by kernel_rfl)
    have e48 : X 48 = (.bool false) := hI 48 (by omega) (by kernel_rfl) (by kernel_rfl)
    rcases vs with _ | ⟨vz, vs⟩
    rotate_left
    ·simp at hlen
    clear hX hI hlen
    simp only [overF, List.foldl_cons, List.foldl_nil, List.setIfInBounds_toArray, List.set_cons_succ, List.set_cons_zero, e41, e42, e43, e44, e45, e46, e47, e48]
    have hx9 : Ext W11 w' := hph
    clear hph e41 e42 e43 e44 e45 e46 e47 e48
    generalize w' = W12 at *
    have HA12 := hide hx9
    clear hx9
    have hx13 : Ext W12 (W12.alloc (.cells #[.int .i64 0, .slice none 0 0, .int .i64 0, .int .i64 0, .int .i64 0, .int .i64 0, .int .i64 0] 38)) := (Below.refl _ _).alloc (Nat.le_refl _) _
    have hbv := heap_alloc_new W12 (.cells #[.int .i64 0, .slice none 0 0, .int .i64 0, .int .i64 0, .int .i64 0, .int .i64 0, .int .i64 0] 38)
    go_upto_region 12 with (fail)
    generalize W12.alloc (.cells #[.int .i64 0, .slice none 0 0, .int .i64 0, .int .i64 0, .int .i64 0, .int .i64 0, .int .i64 0] 38) = W13 at hx13 hbv ⊢
    obtain ⟨b13, hb13⟩ : ∃ b, W12.heap.size = b := ⟨_, rfl⟩
    rw [hb13] at hbv ⊢
    have HV13 := hide (show BoxV W13 b13 svc0 from hbv)
    have HX13 := hide hx13
    have HB13 := hide hb13
    clear hbv hx13 hb13
    go_wp2_with fail
    go_loopw [14] (fun v14 wr => ∃ k : Nat, k ≤ c.S.length ∧ v14 = .int .i64 k ∧ Hid (BoxV wr b13 (wantK (c.S.take k) idk)) ∧ Hid (Ext W12 wr)) (fun i _ => c.S.length - (intOf i).toNat)
    case atStart => exact ⟨0, Nat.zero_le _, rfl, HV13.out, HX13.out⟩
    case round =>
     clear HV13 HX13
     obtain ⟨k, hk, rfl, hbx, hx⟩ := hrel
     have HBX := hide hbx.out
     have HY := hide hx.out
     clear hbx hx
     generalize wr = wp at *
     have HYB := hide (HBASE.out.trans (HA12.out.trans HY.out))
     have hcs := (HO8.out _ HYB.out).s
     obtain ⟨aS, cS, hvS⟩ := owns_shape hcs
     have q1 : wp.cell? ⟨b8, 0, none⟩ = some (.slice aS c.S.length cS) := by
      rw [← hvS]
      exact (HB8.out _ HYB.out).cell 0 _ rfl
     rw [hvS] at hcs
     have hsl := Sl.of_own' (enc := encV) encV_len hcs
     clear hcs hvS
     by_cases hkl : k < c.S.length
     ·have hkz : (k : Int) < c.S.length := by omega
      have hs10 := HS10.out
      have hwk : IntKind.i64.wrap ((k : Int) + 1) = ((k + 1 : Nat) : Int) := by rw [IntKind.wrap_i64]; omega
      clear hs10
      obtain ⟨bS, offS, rfl, hbS, hrS⟩ := svcs_at hsl k hkl
      have d1 : wp.cell? ⟨bS, offS + k * 7, none⟩ = some (.int .i64 c.S[k].id) := hrS 0 _ rfl
      have q2 := HCI.out _ HYB.out
      have hwn := wantK_snoc c.S k hkl idk
      have hok := (HO8.out _ HYB.out).k _ (List.getElem_mem hkl)
      obtain ⟨aK, cK, hvK⟩ := owns_shape hok
      obtain ⟨x, hx⟩ : ∃ x, c.S[k] = x := ⟨_, rfl⟩
      rw [hx] at d1 hwn hrS hvK
      have HON := hide (encV_one ⟨aK, _, cK, hvK⟩)
      have HRS := hide (show ∀ X, Ext wp X → X.rangeAt bS (offS + k * 7) (encV x) from fun X hX j v hv => (hX.cell (p := ⟨bS, offS + k * 7 + j, none⟩) (World.block_lt_of_cell? wp _ (hrS j v hv))).trans (hrS j v hv))
      have HQ1 := hide (show ∀ X, Ext wp X → X.cell? ⟨b8, 0, none⟩ = some (.slice (some ⟨bS, offS, none⟩) c.S.length cS) from fun X hX => (hX.cell (p := ⟨b8, 0, none⟩) (World.block_lt_of_cell? wp _ q1)).trans q1)
      clear hsl hrS hok hvK hx
      obtain ⟨xid, hxid⟩ : ∃ xid, x.id = xid := ⟨_, rfl⟩
      rw [hxid] at d1 hwn
      have HWK := hide hwk
      clear hwk hxid
      by_cases he : xid = idk
      ·subst he
       rw [if_pos rfl] at hwn
       have HWN := hide hwn
       clear hwn
       go_wp2_with fail
       go_quiet (fail)
       clear q1 q2 d1
       rename_i nq
       obtain ⟨wq, hwq⟩ : ∃ wq, wp.drewN nq = wq := ⟨_, rfl⟩
       have hEq : Ext wp wq := hwq ▸ Below.drewN' (Below.refl _ _) _
       rw [hwq]
       clear hwq
       have HYQ := hide (HY.out.trans hEq)
       have HBQ := hide (HBX.out.ext hEq)
       have HRQ := hide (HRS.out _ hEq)
       have q1 : wq.cell? ⟨b8, 0, none⟩ = some (.slice (some ⟨bS, offS, none⟩) c.S.length cS) := HQ1.out _ hEq
       clear hEq HBX HY
       go_upto_region 16 with (fail)
       refine wp_region_lit ?_
       refine wpList_plain rfl fun K hK => ?_
       go_simp
       refine hK _ _ ?_
       refine wpList_plain rfl fun K hK => ?_
       go_simp
       refine hK _ _ ?_
       refine wpList_plain rfl fun K hK => ?_
       go_simp
       refine hK _ _ ?_
       refine wpList_plain rfl fun K hK => ?_
       go_simp
       refine hK _ _ ?_
       refine wpList_load_mid rfl 38 (.tmp 71) rfl bS (offS + k * 7) rfl (encV x) dv HRQ.out hdv1 hdv2 Tryz.svcSize ?_
       simp only [Act.put]
       refine wpList_store_mid rfl 38 (.tmp 13) (.tmp 72) rfl b13 0 (encV x).toArray rfl rfl HBQ.out.there Tryz.svcSize (all_oneCell_toArray HON.out) ?_
       have hbs := HBQ.out.store x
       have hes : Ext W12 (wq.setCells b13 0 (encV x)) := Keeps.ext HYQ.out (keeps_setCells b13 (encV x) 0 wq) (fun g hg => by have := HB13.out; omega)
       obtain ⟨ws, hws⟩ : ∃ ws, wq.setCells b13 0 (encV x) = ws := ⟨_, rfl⟩
       rw [hws] at hbs hes
       rw [show wq.setCells b13 0 (encV x).toArray.toList = ws from hws]
       have HBS := hide hbs
       have HES := hide hes
       have hwk := HWK.out
       clear hws hbs hes q1 HWK HYQ HBQ HRQ
       go_wp2
       go_roundw
       case rel => exact ⟨k + 1, by omega, by first | rfl | simp, by show BoxV _ _ _; rw [HWN.out]; exact HBS.out, HES.out⟩
       case measure => simp [intOf] <;> omega
      ·have hne : (xid == idk) = false := by simpa using he
       rw [if_neg he] at hwn
       have HWN := hide hwn
       clear hwn
       go_wp2_with fail
       go_quiet (fail)
       have hwk := HWK.out
       clear q1 q2 d1 HWK
       go_wp2
       go_roundw
       case rel => exact ⟨k + 1, by omega, by first | rfl | simp, by show BoxV _ _ _; rw [HWN.out]; exact HBX.out, Below.drewN' HY.out _⟩
       case measure => simp [intOf] <;> omega
     ·obtain rfl : k = c.S.length := by omega
      have hb13 := HBX.out
      rw [List.take_length, wantK_all HNS.out idk] at hb13
      have hys := svcAt_strs (HO8.out _ HYB.out) idk
      have hco := HSC.out
      obtain ⟨y, hy⟩ : ∃ y, svcAt c.S idk = y := ⟨_, rfl⟩
      rw [hy] at hb13 hys hco
      have HVB := hide hb13
      have HVA := hide (HV11.out.ext (HA12.out.trans HY.out))
      have HYS := hide hys
      have HKS := hide (HKV11.out.ext (HA12.out.trans HY.out))
      have HCO := hide hco
      have H14 := hide HYB.out
      have HBS := hide (show w.heap.size ≤ wp.heap.size from Nat.le_trans HSZ.out HYB.out.size)
      clear hb13 hys hco hy hsl HBX HY HYB HA12 HBASE HKV11 HV11 HSC
      generalize wp = W14 at *
      go_upto_region 17 with (fail)
      clear q1
      refine wp_region_rw 124 [] [15, 73, 74, 75, 76, 77, 78] (fun _ w' => Ext W14 w') (fun (t : Nat) (wI : World) (v : Value) => match t with | 15 => wI.ownsRow w.heap.size 40 3 v T.length (T.flatMap encE) | 73 => v = (.agg #[c.sv, c.ev, c.rv, c.tv, .int .i64 c.w0, .int .i64 c.w1, .int .i64 c.w2, .int .i64 c.w3, .int .i64 c.w4, .int .i64 c.w5, .int .i64 c.w6, .int .i64 c.panic, .int .i64 c.low, .int .i64 c.high, .int .i64 c.wait, .int .i64 c.hop, .int .i64 c.life, .int .i64 c.purse, .int .i64 c.horizon, .int .i64 c.sample]) | 74 => v = (.slice (some ⟨bi, off, none⟩) 2 2) | 75 => v = (.int .i64 (i : Int)) | 76 => v = (.pointer (some ⟨bi, off + i, none⟩)) | 77 => v = (.int .i64 idk) | 78 => wI.ownsRow w.heap.size 40 3 v T.length (T.flatMap encE) | _ => True) (fun w' w'' => Ext w' w'') (by kernel_rfl) rfl (by kernel_rfl) (by kernel_rfl) (by kernel_rfl) (by kernel_rfl) ?_ ?_ ?_ ?_ ?_ ?_ ?_
      ·intro w' w'' h
       exact h
      ·intro t w' w'' v hR hv
       split at hv <;> first | exact hv | (exact owns_ext hv hR) | (subst hv; rfl)
      ·intro vs w' w'' h e
       exact Ext.trans (show Ext _ w' from h) e
      ·exact (Below.refl _ _).drew
      ·intro i o ho hmi vs X w' hpk hph hX hI hF K hK
       have hin : i < 7 := (Array.getElem?_eq_some_iff.1 ho).1
       have hi : i = 0 ∨ i = 1 ∨ i = 2 ∨ i = 3 ∨ i = 4 ∨ i = 5 ∨ i = 6 := by omega
       rcases hi with rfl | rfl | rfl | rfl | rfl | rfl | rfl
       ·obtain rfl := Option.some.inj ho
        have e8 : X 8 = (.pointer (some ⟨b8, 0, none⟩)) := hF 8 (by omega) (by kernel_rfl)
        have hx : Ext W14 w' := hph
        unfold wpOp
        simp only [ho]
        rw [if_pos (by rfl)]
        left
        rw [frame124]
        refine wp_load_mid 30 (.tmp 8) rfl b8 0 e8 (encC c) cd ((HB8.out w' (H14.out.trans hx)).range) hcd1 hcd2 Tryz.confSize (metK (hK.out (.agg #[c.sv, c.ev, c.rv, c.tv, .int .i64 c.w0, .int .i64 c.w1, .int .i64 c.w2, .int .i64 c.w3, .int .i64 c.w4, .int .i64 c.w5, .int .i64 c.w6, .int .i64 c.panic, .int .i64 c.low, .int .i64 c.high, .int .i64 c.wait, .int .i64 c.hop, .int .i64 c.life, .int .i64 c.purse, .int .i64 c.horizon, .int .i64 c.sample]) _ (Below.refl _ _) (fun d hd => by cases hd; exact rfl)) ?_)
        rfl
       ·obtain rfl := Option.some.inj ho
        have e9 : X 9 = (.slice (some ⟨bi, off, none⟩) 2 2) := hF 9 (by omega) (by kernel_rfl)
        unfold wpOp
        simp only [ho]
        rw [if_pos (by rfl)]
        left
        rw [frame124]
        go_simp
        refine metK (hK.out ((.slice (some ⟨bi, off, none⟩) 2 2)) _ (Below.refl _ _) (fun d hd => by cases hd; exact rfl)) ?_
        simp [frame124, Act.put, *]
       ·obtain rfl := Option.some.inj ho
        have e10 : X 10 = (.int .i64 (i : Int)) := hF 10 (by omega) (by kernel_rfl)
        unfold wpOp
        simp only [ho]
        rw [if_pos (by rfl)]
        left
        rw [frame124]
        go_simp
        refine metK (hK.out ((.int .i64 (i : Int))) _ (Below.refl _ _) (fun d hd => by cases hd; exact rfl)) ?_
        simp [frame124, Act.put, *]
       ·obtain rfl := Option.some.inj ho
        have e74 : X 74 = (.slice (some ⟨bi, off, none⟩) 2 2) := hI 74 (by kernel_rfl) (by kernel_rfl)
        have e75 : X 75 = (.int .i64 (i : Int)) := hI 75 (by kernel_rfl) (by kernel_rfl)
        unfold wpOp
        simp only [ho]
        rw [if_pos (by rfl)]
        left
        rw [frame124]
        go_simp
        refine metK (hK.out ((.pointer (some ⟨bi, off + i, none⟩))) _ (Below.refl _ _) (fun d hd => by cases hd; exact rfl)) ?_
        simp [frame124, Act.put, *]
       ·obtain rfl := Option.some.inj ho
        have e76 : X 76 = (.pointer (some ⟨bi, off + i, none⟩)) := hI 76 (by kernel_rfl) (by kernel_rfl)
        have hx : Ext W14 w' := hph
        have q := HCI.out w' (H14.out.trans hx)
        unfold wpOp
        simp only [ho]
        rw [if_pos (by rfl)]
        left
        rw [frame124]
        go_simp
        refine metK (hK.out ((.int .i64 idk)) _ (Below.refl _ _) (fun d hd => by cases hd; exact rfl)) ?_
        simp [frame124, Act.put, *]
       ·obtain rfl := Option.some.inj ho
        have e73 : X 73 = (.agg #[c.sv, c.ev, c.rv, c.tv, .int .i64 c.w0, .int .i64 c.w1, .int .i64 c.w2, .int .i64 c.w3, .int .i64 c.w4, .int .i64 c.w5, .int .i64 c.w6, .int .i64 c.panic, .int .i64 c.low, .int .i64 c.high, .int .i64 c.wait, .int .i64 c.hop, .int .i64 c.life, .int .i64 c.purse, .int .i64 c.horizon, .int .i64 c.sample]) := hI 73 (by kernel_rfl) (by kernel_rfl)
        have e77 : X 77 = (.int .i64 idk) := hI 77 (by kernel_rfl) (by kernel_rfl)
        have hx : Ext W14 w' := hph
        unfold wpOp
        simp only [ho]
        rw [if_pos (by rfl)]
        left
        rw [frame124]
        go_simp
        refine (ends16_any c idk w' (HO8.out w' (H14.out.trans hx)).ok.2.2.1 HL40.out).mono ?_
        rintro e w9 ⟨v', rfl, h9, E9⟩
        rw [HTE.out] at h9
        refine metK (hK.out v' w9 E9 (fun d hd => by cases hd; exact owns_mono h9 (Nat.le_trans HBS.out hx.size))) ?_
        simp [frame124, Act.put, *]
       ·obtain rfl := Option.some.inj ho
        have y78 := hI 78 (by kernel_rfl) (by kernel_rfl)
        unfold wpOp
        simp only [ho]
        rw [if_pos (by rfl)]
        left
        rw [frame124]
        go_simp
        refine metK (hK.out _ _ (Below.refl _ _) (fun d hd => by cases hd; exact y78)) ?_
        simp [frame124, Act.put, *]
      ·intro i o ho hmi vs X w' hqi hql hph hX hI hF K hK
       rcases vs with _
       ·simp at hql <;> omega
      ·intro vs X w' hlen hph hX hI
       have y15 := hI 15 (by omega) (by kernel_rfl) (by kernel_rfl)
       have e73 : X 73 = (.agg #[c.sv, c.ev, c.rv, c.tv, .int .i64 c.w0, .int .i64 c.w1, .int .i64 c.w2, .int .i64 c.w3, .int .i64 c.w4, .int .i64 c.w5, .int .i64 c.w6, .int .i64 c.panic, .int .i64 c.low, .int .i64 c.high, .int .i64 c.wait, .int .i64 c.hop, .int .i64 c.life, .int .i64 c.purse, .int .i64 c.horizon, .int .i64 c.sample]) := hI 73 (by omega) (by kernel_rfl) (by kernel_rfl)
       have e74 : X 74 = (.slice (some ⟨bi, off, none⟩) 2 2) := hI 74 (by omega) (by kernel_rfl) (by kernel_rfl)
       have e75 : X 75 = (.int .i64 (i : Int)) := hI 75 (by omega) (by kernel_rfl) (by kernel_rfl)
       have e76 : X 76 = (.pointer (some ⟨bi, off + i, none⟩)) := hI 76 (by omega) (by kernel_rfl) (by kernel_rfl)
       have e77 : X 77 = (.int .i64 idk) := hI 77 (by omega) (by kernel_rfl) (by kernel_rfl)
       have y78 := hI 78 (by omega) (by kernel_rfl) (by kernel_rfl)
       rcases vs with _ | ⟨vz, vs⟩
       rotate_left
       ·simp at hlen
       clear hX hI hlen
       simp only [overF, List.foldl_cons, List.foldl_nil, List.setIfInBounds_toArray, List.set_cons_succ, List.set_cons_zero, e73, e74, e75, e76, e77]
       have hx9 : Ext W14 w' := hph
       clear hph e73 e74 e75 e76 e77 y78
       generalize X 78 = x78 at *
       obtain ⟨a15, c15, hv15⟩ := owns_shape y15
       rw [hv15] at y15 ⊢
       have HY15 := hide (Sl.of_own' (enc := encE) encE_len y15)
       clear y15 hv15
       generalize w' = W15 at *
       have HA15 := hide hx9
       clear hx9
       have HX15 := hide (H14.out.trans HA15.out)
       have q := HCI.out _ HX15.out
       go_wp2_with fail
       refine (mring_any idk W15 (HDD.out _ HX15.out) HI.out).mono ?_
       rintro e w12 ⟨rfl, rfl⟩
       have hr := ring_of (HDD.out _ HX15.out) idk
       obtain ⟨r, hre⟩ : ∃ r, (g idk).getD nb = r := ⟨_, rfl⟩
       rw [hre] at hr ⊢
       have hids : idsAt d.E idk = T.map EndD.id := by unfold idsAt; rw [HTT.out]
       rw [hids] at hr
       obtain ⟨qp, rfl⟩ := ring_ptr hr
       have HRE := hide hre
       have HRG := hide hr
       have HVA5 := hide (HVA.out.ext HA15.out)
       have HVB5 := hide (HVB.out.ext HA15.out)
       clear hre hr hids q HVA HVB
       go_wp2_with (first | (refine BigFrame.wpList_want (by rfl) fun K hK => ?_; refine wp_load_mid 38 (.tmp 11) rfl b11 0 rfl (encV (⟨sid, .slice ak sK.length ck, sK, swork, sslots, squeue, sbal, swarm⟩ : SvcD)) dv (HVA5.out.range) hdv1 hdv2 Tryz.svcSize ?_; refine hK _ _ ?_; simp only [Act.put]) | (refine BigFrame.wpList_want (by rfl) fun K hK => ?_; refine wp_load_mid 38 (.tmp 13) rfl b13 0 rfl (encV y) dv (HVB5.out.range) hdv1 hdv2 Tryz.svcSize ?_; refine hK _ _ ?_; simp only [Act.put]) | (refine BigFrame.wpList_want (by rfl) fun K hK => ?_; go_simp; refine hK _ _ ?_; (try simp only [Act.put])))
       refine (sameS_true (⟨sid, .slice ak sK.length ck, sK, swork, sslots, squeue, sbal, swarm⟩ : SvcD) y W15 (HKS.out.ext HA15.out) (HYS.out.ext HA15.out) HCO.out).mono ?_
       rintro e w13 ⟨rfl, E13⟩
       have HX13 := hide (HX15.out.trans E13)
       have q := HCI.out _ HX13.out
       have HE13 := hide E13
       clear E13 HVA5 HVB5 HKS HYS HCO
       go_wp2_with fail
       refine (mends_any idk w13 (HDD.out _ HX13.out).box (ends_sl (HDD.out _ HX13.out).own) HNE.out (HDD.out _ HX13.out).few).mono ?_
       rintro e w14 ⟨v14, rfl, h14, E14⟩
       rw [HTT.out] at h14
       obtain ⟨a14, c14, rfl⟩ := owns_shape h14
       have HY14 := hide (Sl.of_own' (enc := encE) encE_len h14)
       have HE14 := hide (HE13.out.trans E14)
       clear h14 E14 q HX13 HE13
       go_wp2_with fail
       refine (sameE_true T _ _ w14 HY14.out (HY15.out.ext HE14.out)).mono ?_
       rintro e w16 ⟨rfl, E16⟩
       have HE16 := hide (HE14.out.trans E16)
       clear E16 HY14 HE14
       go_wp2_with fail
       refine (Rg.row_ints key (by decide) (HRG.out.ext HE16.out)).mono ?_
       rintro e w17 ⟨v17, rfl, hro, E17⟩
       obtain ⟨RW, hRW⟩ : ∃ RW, Rg.rowOf key (Rg.pointsOf 16 (T.map EndD.id)) = RW := ⟨_, rfl⟩
       rw [hRW] at hro
       have HRW := hide hRW
       clear hRW
       obtain ⟨-, a17, c17, rfl⟩ := hro.shape
       have HRO := hide hro
       have HE17 := hide (HE16.out.trans E17)
       clear hro E17 HE16
       go_wp2_with fail
       have hTl := HTL.out
       refine (rids_any T _ w17 (HY15.out.ext HE17.out) (by omega)).mono ?_
       rintro e w18 ⟨v18, rfl, h18, E18⟩
       rw [← List.length_map (f := EndD.id)] at h18
       have hmi : ∀ x ∈ T.map EndD.id, I64 x := fun x hx => by
        obtain ⟨e, he, rfl⟩ := List.mem_map.1 hx
        rw [← HTT.out] at he
        have := ends_in (chkC_ends (HDD.out _ HX15.out).right).2.2.2.2.1 (endsAt_mem.1 he).1
        constructor <;> omega
       have hml : (T.map EndD.id).length ≤ 1000 := by rw [List.length_map]; omega
       have HMI := hide hmi
       have HML := hide hml
       have HI18 := hide (Sl.of_own' (enc := encI) (fun _ => rfl) h18)
       have HRO18 := hide (HRO.out.ext E18)
       have HE18 := hide (HE17.out.trans E18)
       clear h18 E18 HE17 HRO hmi hml hTl
       go_wp2_with fail
       refine (Rg.rrow_any (T.map EndD.id) v18 16 key w18 HI18.out HMI.out HML.out (by omega) HKEY.out).mono ?_
       rintro e w19 ⟨v19, rfl, hr9, E19⟩
       rw [HRW.out] at hr9
       have HR9 := hide hr9
       have HRO19 := hide (HRO18.out.ext E19)
       have HE19 := hide (HE18.out.trans E19)
       clear hr9 E19 HE18 HRO18 HI18
       go_wp2_with fail
       refine (same2_true RW RW w19 HRO19.out HR9.out rfl).mono ?_
       rintro e w20 ⟨rfl, E20⟩
       have HX20 := hide (HX15.out.trans (HE19.out.trans E20))
       have q := HCI.out _ HX20.out
       clear E20 HRO19 HR9 HE19
       go_wp2_with fail
       refine (mring_any idk w20 (HDD.out _ HX20.out) HI.out).mono ?_
       rintro e w21 ⟨rfl, rfl⟩
       rw [HRE.out]
       have hwi := HWI.out
       have hpq := ring_same ⟨qp, 0, none⟩
       clear q HWI
       go_wp2
       go_roundw
       case rel => exact ⟨i + 1, by omega, by first | rfl | simp, HX20.out⟩
       case measure => simp [intOf] <;> omega
  ·obtain rfl : i = 2 := by omega
   have HXF := hide (HX3.out.trans HX.out)
   have hmx := HMM.out _ HX.out
   go_wp2_with fail
   refine (lives16_any wo hmx).mono ?_
   rintro e w9 ⟨rfl, E9⟩
   have HZ := hide (HXF.out.trans E9)
   clear E9 HXF hmx
   go_wp2
   go_ret
   exact ⟨rfl, HZ.out⟩
end Go.Proofs.YtofjcokclegkhaaGreatDoor
