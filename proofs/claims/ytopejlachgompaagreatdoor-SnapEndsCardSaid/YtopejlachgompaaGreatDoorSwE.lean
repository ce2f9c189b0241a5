/- SnapEnds: its walk (printed by wip/gen_swe.py). -/
import Derived.Test.YtopejlachgompaaGreatDoorZsf
import Derived.Test.YtopejlachgompaaGreatDoorZrk
namespace Go.Proofs.YtopejlachgompaaGreatDoor
open Go.ChangeShapes Go.WideShapes Go.ChangeAt Go.RowKit Go.Lib Go.Shelf Go.Maps
set_option maxRecDepth 100000 in
set_option maxHeartbeats 16000000 in
theorem ends_walk (L : List Int) (key : Int) (v : Value) (w : World) (hs : Ints w v L) (hL : ∀ x ∈ L, I64 x) (hm : MaxV w) :
  Calls Tryz.prog 4 #[v, .int .u64 key] w fun e w' => e = .returned (.bool true) ∧ Ext w w' := by
 have HMD := hide (made16_any L v w hs hL hm)
 obtain ⟨_, a, cap, rfl⟩ := hs.shape
 have HM := hide hm
 clear hs hL hm
 go_enter Tryz.func4, Tryz.ntmps4
 go_wp2_with fail
 refine HMD.out.mono ?_
 rintro e W1 ⟨ba, c, B, rfl, hc, ho, hB, hsa, E1⟩
 have G := hide (good_conf hc)
 clear hc HMD
 have hbz := heap_alloc_new W1 (.cells #[.slice none 0 0, .slice none 0 0, .slice none 0 0, .slice none 0 0, .int .i64 0, .int .i64 0, .int .i64 0, .int .i64 0, .int .i64 0, .int .i64 0, .int .i64 0, .int .i64 0, .int .i64 0, .int .i64 0, .int .i64 0, .int .i64 0, .int .i64 0, .int .i64 0, .int .i64 0, .int .i64 0] 31)
 have hxz : Ext W1 (W1.alloc (.cells #[.slice none 0 0, .slice none 0 0, .slice none 0 0, .slice none 0 0, .int .i64 0, .int .i64 0, .int .i64 0, .int .i64 0, .int .i64 0, .int .i64 0, .int .i64 0, .int .i64 0, .int .i64 0, .int .i64 0, .int .i64 0, .int .i64 0, .int .i64 0, .int .i64 0, .int .i64 0, .int .i64 0] 31)) := (Below.refl _ _).alloc (Nat.le_refl _) _
 have hth : (W1.alloc (.cells #[.slice none 0 0, .slice none 0 0, .slice none 0 0, .slice none 0 0, .int .i64 0, .int .i64 0, .int .i64 0, .int .i64 0, .int .i64 0, .int .i64 0, .int .i64 0, .int .i64 0, .int .i64 0, .int .i64 0, .int .i64 0, .int .i64 0, .int .i64 0, .int .i64 0, .int .i64 0, .int .i64 0] 31)).there W1.heap.size 0 20 := fun q hq => by
  rw [Nat.zero_add]
  refine ⟨?_, by simp only [World.frozen?]; rw [hbz]; simp⟩
  simp only [World.cell?, hbz]
  simp [hq]
 go_upto_region 2 with (refine wpList_store_mid rfl 31 (.tmp 6) (.tmp 19) rfl W1.heap.size 0 (encC c).toArray rfl rfl hth Tryz.confSize (all_oneCell_toArray (encC_one' ho)) ?_)
 generalize W1.alloc (.cells #[.slice none 0 0, .slice none 0 0, .slice none 0 0, .slice none 0 0, .int .i64 0, .int .i64 0, .int .i64 0, .int .i64 0, .int .i64 0, .int .i64 0, .int .i64 0, .int .i64 0, .int .i64 0, .int .i64 0, .int .i64 0, .int .i64 0, .int .i64 0, .int .i64 0, .int .i64 0, .int .i64 0] 31) = Wz at hbz hxz hth ⊢
 obtain ⟨b6, hbe⟩ : ∃ b, W1.heap.size = b := ⟨_, rfl⟩
 rw [hbe] at hbz hth ⊢
 have hbb6 : w.heap.size ≤ b6 := by have := (E1).size; omega
 have hrs := World.rangeAt_setCells_same Wz b6 0 (encC c) hth
 obtain ⟨cs, hcs1, hcs2⟩ := setCells_block b6 31 (0, 0) (encC c) 0 Wz _ hbz
 have hk5 := keeps_setCells b6 (encC c) 0 Wz
 show Code.wp _ _ _ _ (Wz.setCells b6 0 (encC c))
 generalize Wz.setCells b6 0 (encC c) = W2 at hrs hk5 hcs1 ⊢
 have HB2 := hide (show BoxC W2 b6 c from BoxC.of_range hcs1 (by rw [hcs2]; rfl) hrs)
 have HX2 := hide (Keeps.ext ((E1).trans hxz) hk5 (fun g hg => by omega))
 have HO2 := hide (((ho).ext hxz).keepT hk5 (OfT.one hbz) (by decide) (by decide) (by decide) (by decide) (by decide) (by decide) (by decide))
 have hGb6 : W1.heap.size ≤ b6 := by omega
 have hEb6 : Ext W1 W2 := ((Keeps.of_ext hxz).trans hk5 : Keeps (fun g => g = b6) W1 W2).below (Nat.le_refl _) (fun g hg => by omega)
 clear hrs hk5 hcs1 hcs2 hbz hxz hth
 have HSA := hide (hsa.ext hEb6)
 clear ho hsa E1 hEb6
 obtain ⟨d, bt, bs, br, nb, Rs, g, hsi, hcd⟩ := HSA.out
 have hce : d.E = c.E := core_E hcd
 have HD := hide hsi
 have HN := hide hsi.nodup
 have HR := hide hsi.right
 have hfew := hsi.few
 have HCE := hide hce
 have q1 : W2.cell? ⟨b6, 2, none⟩ = some c.rv := HB2.out.cell 2 _ rfl
 obtain ⟨aE, cE, hvE⟩ := owns_shape HO2.out.e
 rw [← hce] at hvE
 have HVE := hide hvE
 clear hsi HSA hcd G q1 hvE hce
 go_wp2_with fail
 go_loopw [7, 8] (fun v7 v8 wr => ∃ k : Nat, k ≤ 10 ∧ v8 = .int .i64 ((k : Int) + 1) ∧ v7 = .int .i64 (cntE d.E k : Nat) ∧ Hid (Ext W2 wr)) (fun _ i _ => 11 - (intOf i).toNat)
 case atStart => exact ⟨0, by omega, rfl, rfl, Below.refl _ _⟩
 case round =>
  obtain ⟨k, hk, rfl, rfl, hx⟩ := hrel
  have HX := hide hx.out
  clear hx
  generalize wr = wo at *
  by_cases hlt : k < 10
  ·have hlez : (k : Int) + 1 ≤ 10 := by omega
   have hwk : IntKind.i64.wrap ((k : Int) + 1 + 1) = ((k + 1 : Nat) : Int) + 1 := by rw [IntKind.wrap_i64]; omega
   have hcl := cntE_le d.E k
   have hcs := cntE_succ d.E k
   have hcast : ((k + 1 : Nat) : Int) = (k : Int) + 1 := by omega
   rw [hcast] at hcs
   have hmul : k * d.E.length ≤ 10 * 19 := Nat.mul_le_mul (by omega) hfew
   obtain ⟨id, hid⟩ : ∃ id : Int, (k : Int) + 1 = id := ⟨_, rfl⟩
   have hi64 : I64 id := by constructor <;> omega
   rw [hid] at hcs hlez hwk ⊢
   have HI := hide hi64
   have hids := idsAt_nodup HN.out id
   have hasc := endsAt_asc HN.out id
   have hmem := fun e => @endsAt_mem d.E id e
   have hidl : (idsAt d.E id).length = (endsAt d.E id).length := by unfold idsAt; rw [List.length_map]
   have hel : (Rg.ends (idsAt d.E id)).length = (endsAt d.E id).length := by rw [rends_len hids, hidl]
   have hTl : (endsAt d.E id).length ≤ 19 := by rw [endsAt_len]; exact Nat.le_trans (List.length_filter_le _ _) hfew
   have hth : endsAt d.E id ≠ [] → thereB d.S id = true := fun hne => by
    obtain ⟨e, he⟩ := List.exists_mem_of_ne_nil _ hne
    obtain ⟨h1, h2⟩ := (hmem e).1 he
    have := (right_svc HR.out h1).1
    rw [h2] at this
    exact this
   have hrow := Rg.rowOf_length key 16 (by decide) (idsAt d.E id)
   have hrm := fun x => Rg.rowOf_mem key 16 (by decide) (idsAt d.E id) x
   have hidm : ∀ e, e ∈ endsAt d.E id → e.id ∈ idsAt d.E id := fun e he => List.mem_map.2 ⟨e, he, rfl⟩
   obtain ⟨T, hT⟩ : ∃ T, endsAt d.E id = T := ⟨_, rfl⟩
   rw [hT] at hasc hmem hidl hel hTl hth hidm hcs
   rw [hel] at hrow
   have HT := hide hT
   have HAS := hide hasc
   have HME := hide hmem
   have HTH := hide hth
   have HRM := hide hrm
   have HIM := hide hidm
   have HWK := hide hwk
   have HCS := hide hcs
   have HEL := hide hel
   have HROW := hide hrow
   have hsum : IntKind.i64.wrap ((cntE d.E k : Int) + (T.length : Int)) = ((cntE d.E k + T.length : Nat) : Int) := by rw [IntKind.wrap_i64]; omega
   clear hT hasc hmem hth hrm hidm hwk hcs hids hidl hel hrow hcast
   go_wp2_with fail
   refine (mends_any id wo (HD.out.ext HX.out).box (ends_sl (HD.out.ext HX.out).own) HN.out hfew).mono ?_
   rintro e w9 ⟨v9, rfl, h9, E9⟩
   rw [HT.out] at h9
   obtain ⟨a9, c9, rfl⟩ := owns_shape h9
   have H9 := hide (Sl.of_own' (enc := encE) encE_len h9)
   have HX9 := hide (HX.out.trans E9)
   clear h9 E9 HX
   go_wp2_with fail
   refine (mservice_any id w9 (HD.out.ext HX9.out) HI.out).mono ?_
   rintro e w10 ⟨kv, rfl, hkv, E10⟩
   obtain ⟨ak, ck, rfl⟩ := owns_shape hkv
   clear hkv
   have H10 := hide (H9.out.ext E10)
   have HX10 := hide (HX9.out.trans E10)
   clear E10 H9 HX9
   obtain ⟨tb, htb⟩ : ∃ tb, thereB d.S id = tb := ⟨_, rfl⟩
   rw [htb] at HTH ⊢
   obtain ⟨sv, hsv⟩ : ∃ sv, svcAt d.S id = sv := ⟨_, rfl⟩
   rw [hsv]
   clear htb hsv
   obtain ⟨sid, skv, sK, swork, sslots, squeue, sbal, swarm⟩ := sv
   simp only [SvcD.val]
   by_cases h0 : T.length = 0
   ·have h0z : ¬ (0 : Int) < T.length := by omega
    clear h0
    go_upto_region 13 with (fail)
    have hx11 : Ext w10 (w10.alloc (.cells #[.int .i64 sid, .slice ak sK.length ck, .int .i64 swork, .int .i64 sslots, .int .i64 squeue, .int .i64 sbal, .int .i64 swarm] 51)) := (Below.refl _ _).alloc (Nat.le_refl _) _
    generalize w10.alloc (.cells #[.int .i64 sid, .slice ak sK.length ck, .int .i64 swork, .int .i64 sslots, .int .i64 squeue, .int .i64 sbal, .int .i64 swarm] 51) = w11 at hx11 ⊢
    have H11 := hide (H10.out.ext hx11)
    have HX11 := hide (HX10.out.trans hx11)
    clear hx11 H10 HX10
    go_wp2_with fail
    refine (mring_any id w11 (HD.out.ext HX11.out) HI.out).mono ?_
    rintro e w12 ⟨rfl, rfl⟩
    have hr := ring_of (HD.out.ext HX11.out) id
    generalize (g id).getD nb = r at hr ⊢
    obtain ⟨q, rfl⟩ := ring_ptr hr
    have HRG := hide hr
    clear hr
    go_wp2_with fail
    refine (Rg.row_ints key (by decide) HRG.out).mono ?_
    rintro e w13 ⟨v13, rfl, hro, E13⟩
    obtain ⟨-, a13, c13, hv13⟩ := hro.shape
    rw [HROW.out] at hv13
    subst hv13
    have HRO := hide hro
    have HR13 := hide (HRG.out.ext E13)
    have H13 := hide (H11.out.ext E13)
    have HX13 := hide (HX11.out.trans E13)
    clear hro E13 HRG H11 HX11
    go_wp2_with fail
    refine (Rg.len_any HR13.out).mono ?_
    rintro e w14 ⟨rfl, rfl⟩
    rw [HEL.out]
    clear HR13
    go_wp2_with fail
    go_loopw [14] (fun v14 wr => ∃ j : Nat, j ≤ T.length ∧ v14 = .int .i64 j ∧ Hid (Ext w13 wr)) (fun i _ => T.length - (intOf i).toNat)
    case atStart => exact ⟨0, Nat.zero_le _, rfl, Below.refl _ _⟩
    case round =>
     obtain ⟨j, hj, rfl, hx⟩ := hrel
     have HY := hide hx.out
     clear hx
     generalize wr = wp at *
     by_cases hjl : j < T.length
     ·exact absurd hjl (by omega)
     ·have hjT : j = T.length := by omega
      subst hjT
      have HZ := hide (HX13.out.trans HY.out)
      have hwk := HWK.out
      clear HY H13 HX13 HRO HWK
      go_wp2
      go_roundw
      case rel => exact ⟨k + 1, by omega, by rw [show ((k + 1 : Nat) : Int) + 1 = id + 1 by omega], by rw [HCS.out]; first | rfl | simp, HZ.out⟩
      case measure => simp [intOf]; omega
   ·have h0z : (0 : Int) < T.length := by omega
    have htb : tb = true := HTH.out (fun e => h0 (by rw [e]; rfl))
    subst htb
    clear h0
    go_upto_region 13 with (fail)
    have hx11 : Ext w10 (w10.alloc (.cells #[.int .i64 sid, .slice ak sK.length ck, .int .i64 swork, .int .i64 sslots, .int .i64 squeue, .int .i64 sbal, .int .i64 swarm] 51)) := (Below.refl _ _).alloc (Nat.le_refl _) _
    generalize w10.alloc (.cells #[.int .i64 sid, .slice ak sK.length ck, .int .i64 swork, .int .i64 sslots, .int .i64 squeue, .int .i64 sbal, .int .i64 swarm] 51) = w11 at hx11 ⊢
    have H11 := hide (H10.out.ext hx11)
    have HX11 := hide (HX10.out.trans hx11)
    clear hx11 H10 HX10
    go_wp2_with fail
    refine (mring_any id w11 (HD.out.ext HX11.out) HI.out).mono ?_
    rintro e w12 ⟨rfl, rfl⟩
    have hr := ring_of (HD.out.ext HX11.out) id
    generalize (g id).getD nb = r at hr ⊢
    obtain ⟨q, rfl⟩ := ring_ptr hr
    have HRG := hide hr
    clear hr
    go_wp2_with fail
    refine (Rg.row_ints key (by decide) HRG.out).mono ?_
    rintro e w13 ⟨v13, rfl, hro, E13⟩
    obtain ⟨-, a13, c13, hv13⟩ := hro.shape
    rw [HROW.out] at hv13
    subst hv13
    have HRO := hide hro
    have HR13 := hide (HRG.out.ext E13)
    have H13 := hide (H11.out.ext E13)
    have HX13 := hide (HX11.out.trans E13)
    clear hro E13 HRG H11 HX11
    go_wp2_with fail
    refine (Rg.len_any HR13.out).mono ?_
    rintro e w14 ⟨rfl, rfl⟩
    rw [HEL.out]
    clear HR13
    go_wp2_with fail
    go_loopw [14] (fun v14 wr => ∃ j : Nat, j ≤ T.length ∧ v14 = .int .i64 j ∧ Hid (Ext w13 wr)) (fun i _ => T.length - (intOf i).toNat)
    case atStart => exact ⟨0, Nat.zero_le _, rfl, Below.refl _ _⟩
    case round =>
     obtain ⟨j, hj, rfl, hx⟩ := hrel
     have HY := hide hx.out
     clear hx
     generalize wr = wp at *
     by_cases hjl : j < T.length
     ·have hjz : (j : Int) < T.length := by omega
      have hwj : IntKind.i64.wrap ((j : Int) + 1) = ((j + 1 : Nat) : Int) := by rw [IntKind.wrap_i64]; omega
      obtain ⟨b, off, rfl, hbb, c1, c2, c3⟩ := ends_at (H13.out.ext HY.out) j hjl
      have hmj := (HME.out T[j]).1 (List.getElem_mem hjl)
      rw [hmj.2] at c2
      have hcon : (Rg.rowOf key (Rg.pointsOf 16 (idsAt d.E id))).contains T[j].id = true := by
       rw [List.contains_iff_mem]
       exact (HRM.out _).2 (HIM.out _ (List.getElem_mem hjl))
      have hhas : ∀ u, Ext wp u → Calls Tryz.prog 19 #[.slice a13 T.length c13, .int .i64 T[j].id] u fun e w' => e = .returned (.bool true) ∧ w' = u := fun u hu => (has_any _ T[j].id _ u (HRO.out.ext (HY.out.trans hu))).mono fun e w' h => by
       rw [hcon] at h
       exact ⟨h.1, h.2.symm⟩
      have HHAS := hide hhas
      have HWJ := hide hwj
      obtain ⟨x, hx⟩ : ∃ x, T[j].id = x := ⟨_, rfl⟩
      rw [hx] at c1 HHAS
      clear hhas hcon hmj c3 hwj
      cases j with
      | zero =>
       clear hx
       simp only [Nat.zero_mul, Nat.add_zero] at c1 c2
       go_upto_region 22 with (fail)
       go_quiet ((go_at_call 19; refine Calls.quiet_of_same (HHAS.out _ (Below.drewN' (Below.refl _ _) _))))
       have hwj := HWJ.out
       clear HHAS c1 c2 HWJ
       go_wp2
       go_roundw
       case rel => exact ⟨1, by omega, by first | rfl | simp, Below.drewN' HY.out _⟩
       case measure => simp [intOf] <;> omega
      | succ i =>
       obtain ⟨b', off', hba, -, c1', -, -⟩ := ends_at (H13.out.ext HY.out) i (by omega)
       cases hba
       have hlt2 := List.pairwise_iff_getElem.1 HAS.out i (i + 1) (by omega) hjl (by omega)
       rw [hx] at hlt2
       obtain ⟨y, hy⟩ : ∃ y, T[i].id = y := ⟨_, rfl⟩
       rw [hy] at c1' hlt2
       have hle : decide (x ≤ y) = false := by simp; omega
       clear hx hy hlt2
       have hiz : (i : Int) < T.length := by omega
       have hiz2 : (0 : Int) ≤ (i : Int) := by omega
       have hwi : IntKind.i64.wrap (i : Int) = (i : Int) := by rw [IntKind.wrap_i64]; omega
       go_upto_region 22 with (fail)
       go_quiet ((go_at_call 19; refine Calls.quiet_of_same (HHAS.out _ (Below.drewN' (Below.refl _ _) _))))
       have hwj := HWJ.out
       clear HHAS c1 c2 c1' HWJ
       go_wp2
       go_roundw
       case rel => exact ⟨i + 1 + 1, by omega, by first | rfl | simp, Below.drewN' HY.out _⟩
       case measure => simp [intOf] <;> omega
     ·have hjT : j = T.length := by omega
      subst hjT
      have HZ := hide (HX13.out.trans HY.out)
      have hwk := HWK.out
      clear HY H13 HX13 HRO HWK
      go_wp2
      go_roundw
      case rel => exact ⟨k + 1, by omega, by rw [show ((k + 1 : Nat) : Int) + 1 = id + 1 by omega], by rw [HCS.out]; first | rfl | simp, HZ.out⟩
      case measure => simp [intOf]; omega
  ·obtain rfl : k = 10 := by omega
   have hall := cntE_all HR.out
   rw [hall]
   have q1 : wo.cell? ⟨b6, 2, none⟩ = some c.rv := (HB2.out.ext HX.out).cell 2 _ rfl
   have q1 : wo.cell? ⟨b6, 1, none⟩ = some (.slice aE d.E.length cE) := by rw [← HVE.out]; exact (HB2.out.ext HX.out).cell 1 _ rfl
   have HXF := hide (HX2.out.trans HX.out)
   clear hall HX
   go_wp2_with fail
   refine (lives16_any wo (HM.out.ext HXF.out)).mono ?_
   rintro e w9 ⟨rfl, E9⟩
   have HZ := hide (HXF.out.trans E9)
   clear E9 HXF q1
   go_wp2
   go_ret
   exact ⟨rfl, HZ.out⟩
end Go.Proofs.YtopejlachgompaaGreatDoor
