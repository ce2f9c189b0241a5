/- PlaneLive: its walk (printed by wip/gen_pnx.py). -/
import Derived.Test.YtnnddjmdpplolaaGreatDoorPnR
import Derived.Test.YtnnddjmdpplolaaGreatDoorPnV
import Derived.Test.YtnnddjmdpplolaaGreatDoorPnW
import Derived.Test.YtnnddjmdpplolaaGreatDoorZhr
namespace Go.Proofs.YtnnddjmdpplolaaGreatDoor
open Go.ChangeShapes Go.WideShapes Go.ChangeAt Go.RowKit Go.Lib Go.Shelf Go.Maps
section
variable {B N p bm : Nat} {w w' : World} {pl : PlD}
theorem pl_pin (h : Pl B N w p bm pl) (v : Int) (hI : I64 v) (hpb : ∀ m ∈ pl.V, 0 ≤ m.pins ∧ m.pins ≤ 1000000) :
  Calls Tryz.prog 23 #[.pointer (some ⟨p, 0, none⟩), .int .i64 v] w fun e w' => e = .returned (.int .i64 (pinE pl v)) ∧ Pl B N w' p bm (if pinE pl v = 0 then pinP pl v 1 else pl) ∧ KP B w w' := by
 obtain ⟨vv, h⟩ := h
 refine (pin_any h v hI hpb).mono ?_
 rintro e w' ⟨rfl, ⟨hne, E⟩ | ⟨he, hk, hp⟩⟩
 ·rw [if_neg hne]
  exact ⟨rfl, ⟨vv, h.ext E⟩, KP.of_ext E⟩
 ·rw [if_pos he]
  exact ⟨rfl, ⟨vv, hp⟩, h.kp (hk.mono fun _ hq => .inr (.inr hq))⟩
theorem pl_drop (h : Pl B N w p bm pl) (h50 : pl.V.length ≤ 1000) :
  Calls Tryz.prog 24 #[.pointer (some ⟨p, 0, none⟩)] w fun e w' => ∃ v', e = .returned v' ∧ w'.ownsRow w.heap.size 3 1 v' (goneN pl (liveN pl - 1)).length ((goneN pl (liveN pl - 1)).flatMap encI) ∧ Pl B N w' p bm (dropN pl (liveN pl - 1)) ∧ KP B w w' := by
 obtain ⟨vv, h⟩ := h
 refine (drop_any h h50).mono ?_
 rintro e w' ⟨v', rfl, h1, h2, h3⟩
 exact ⟨v', rfl, h1, ⟨vv, h2⟩, h.kp (h3.mono fun _ hq => .inr (.inr hq))⟩
theorem Pl.keepT {X : Nat → Prop} {T : TypeId} (h : Pl B N w p bm pl) (k : Keeps X w w') (hX : OfT w X T) (h1 : T ≠ 80) (h2 : T ≠ 104) (h3 : T ≠ 61) : Pl B N w' p bm pl := by
 obtain ⟨vv, h⟩ := h
 exact ⟨vv, h.keepT k hX h1 h2 h3⟩
end
theorem acts_at {w : World} {a : Option Addr} {n cap : Nat} {xs : List ActD} (h : Sl encA 4 w (.slice a n cap) xs) (i : Nat) (hi : i < xs.length) :
  ∃ b off, a = some ⟨b, off, none⟩ ∧ b < w.heap.size ∧ w.cell? ⟨b, off + i * 4, none⟩ = some (.int .i64 xs[i].act) ∧ w.cell? ⟨b, off + i * 4 + 1, none⟩ = some (.int .i64 xs[i].pr) ∧ w.cell? ⟨b, off + i * 4 + 2, none⟩ = some (.int .i64 xs[i].ver) ∧ w.cell? ⟨b, off + i * 4 + 3, none⟩ = some (.bool xs[i].bent) := by
 obtain ⟨_, a', cap', hv, _, hc⟩ := h
 cases hv
 obtain ⟨b, off, ha, hb, hc⟩ := hc i xs[i] (List.getElem?_eq_getElem hi)
 exact ⟨b, off, ha, hb, by simpa using hc 0 _ rfl, by simpa using hc 1 _ rfl, by simpa using hc 2 _ rfl, by simpa using hc 3 _ rfl⟩
set_option maxRecDepth 100000 in
set_option maxHeartbeats 16000000 in
theorem live17_walk (L : List Int) (v : Value) (w : World) (hs : Ints w v L) (hL : ∀ x ∈ L, I64 x) (hm : MaxV w) :
  Calls Tryz.prog 5 #[v] w fun e w' => e = .returned (.bool true) ∧ Ext w w' := by
 obtain ⟨cd, hcd1, hcd2⟩ := Tryz.confDesc
 obtain ⟨i0, hi, hz0, hz1, hz2⟩ := info_z' infoI'
 obtain ⟨hl63, a, cap, rfl⟩ := hs.shape
 have HM := hide hm
 have HS := hide hs
 have HL := hide hL
 clear hm hs hL
 go_enter Tryz.func5, Tryz.ntmps5
 go_wp2_with fail
 refine (pl_new 3 w (by decide)).mono ?_
 rintro e W0 ⟨p, bm, rfl, hp0, E0⟩
 have HP := hide (show Pl w.heap.size 0 W0 p bm (pl0 3) from hp0)
 have HE0 := hide E0
 clear hp0 E0
 go_wp2_with fail
 refine (conf_any [] (.slice none 0 0) W0 (ints_nil _) (fun _ h => by cases h)).mono ?_
 rintro e W1 ⟨c, rfl, hc, ho, E1⟩
 have G := hide (good_conf hc)
 clear hc
 have hbz := heap_alloc_new W1 (.cells #[.slice none 0 0, .slice none 0 0, .slice none 0 0, .slice none 0 0, .int .i64 0, .int .i64 0, .int .i64 0, .int .i64 0, .int .i64 0, .int .i64 0, .int .i64 0, .int .i64 0, .int .i64 0, .int .i64 0, .int .i64 0, .int .i64 0, .int .i64 0, .int .i64 0, .int .i64 0, .int .i64 0] 33)
 have hxz : Ext W1 (W1.alloc (.cells #[.slice none 0 0, .slice none 0 0, .slice none 0 0, .slice none 0 0, .int .i64 0, .int .i64 0, .int .i64 0, .int .i64 0, .int .i64 0, .int .i64 0, .int .i64 0, .int .i64 0, .int .i64 0, .int .i64 0, .int .i64 0, .int .i64 0, .int .i64 0, .int .i64 0, .int .i64 0, .int .i64 0] 33)) := (Below.refl _ _).alloc (Nat.le_refl _) _
 have hth : (W1.alloc (.cells #[.slice none 0 0, .slice none 0 0, .slice none 0 0, .slice none 0 0, .int .i64 0, .int .i64 0, .int .i64 0, .int .i64 0, .int .i64 0, .int .i64 0, .int .i64 0, .int .i64 0, .int .i64 0, .int .i64 0, .int .i64 0, .int .i64 0, .int .i64 0, .int .i64 0, .int .i64 0, .int .i64 0] 33)).there W1.heap.size 0 20 := fun q hq => by
  rw [Nat.zero_add]
  refine ⟨?_, by simp only [World.frozen?]; rw [hbz]; simp⟩
  simp only [World.cell?, hbz]
  simp [hq]
 go_upto_region 5 with (refine wpList_store_mid rfl 33 (.tmp 4) (.tmp 21) rfl W1.heap.size 0 (encC c).toArray rfl rfl hth Tryz.confSize (all_oneCell_toArray (encC_one' ho)) ?_)
 generalize W1.alloc (.cells #[.slice none 0 0, .slice none 0 0, .slice none 0 0, .slice none 0 0, .int .i64 0, .int .i64 0, .int .i64 0, .int .i64 0, .int .i64 0, .int .i64 0, .int .i64 0, .int .i64 0, .int .i64 0, .int .i64 0, .int .i64 0, .int .i64 0, .int .i64 0, .int .i64 0, .int .i64 0, .int .i64 0] 33) = Wz at hbz hxz hth ⊢
 obtain ⟨b4, hbe⟩ : ∃ b, W1.heap.size = b := ⟨_, rfl⟩
 rw [hbe] at hbz hth ⊢
 have hbb4 : w.heap.size ≤ b4 := by have := (HE0.out.trans E1).size; omega
 have hrs := World.rangeAt_setCells_same Wz b4 0 (encC c) hth
 obtain ⟨cs, hcs1, hcs2⟩ := setCells_block b4 33 (0, 0) (encC c) 0 Wz _ hbz
 have hk5 := keeps_setCells b4 (encC c) 0 Wz
 show Code.wp _ _ _ _ (Wz.setCells b4 0 (encC c))
 generalize Wz.setCells b4 0 (encC c) = W2 at hrs hk5 hcs1 ⊢
 have HB := hide (show BoxC W2 b4 c from BoxC.of_range hcs1 (by rw [hcs2]; rfl) hrs)
 have HX := hide (Keeps.ext ((HE0.out.trans E1).trans hxz) hk5 (fun g hg => by omega))
 have HO := hide (((ho).ext hxz).keepT hk5 (OfT.one hbz) (by decide) (by decide) (by decide) (by decide) (by decide) (by decide) (by decide))
 have hGb4 : W1.heap.size ≤ b4 := by omega
 have hEb4 : Ext W1 W2 := ((Keeps.of_ext hxz).trans hk5 : Keeps (fun g => g = b4) W1 W2).below (Nat.le_refl _) (fun g hg => by omega)
 clear hrs hk5 hcs1 hcs2 hbz hxz hth
 have HP2 := hide (HP.out.ext (E1.trans hEb4))
 have hB' : W0.heap.size ≤ W2.heap.size := by have := E1.size; have := hEb4.size; omega
 have HBB := hide hB'
 clear HP ho E1 hEb4 hGb4 hB' HE0
 go_wp2_with fail
 refine (acts_any L _ W2 (HS.out.ext HX.out) HL.out).mono ?_
 rintro e W3 ⟨va, A, rfl, hao, hA40, -, hfit, E3⟩
 obtain ⟨aa, ca, rfl⟩ := owns_shape hao
 have HAO := hide hao
 have HFIT := hide hfit
 have HE3 := hide E3
 have HX3 := hide (HX.out.trans E3)
 have HP3 := hide (HP2.out.ext E3)
 have HB3 := hide (HB.out.ext E3)
 have HO3 := hide (HO.out.ext E3)
 have HBB3 := hide (Nat.le_trans HBB.out E3.size)
 clear hao hfit E3 HS HL HP2 HB HO HBB
 go_wp2_with fail
 go_loopw [6, 7, 8] (fun v6 v7 v8 wr => ∃ (i : Nat) (pl : PlD) (P : List Int), i ≤ A.length ∧ v8 = .int .i64 i ∧ v6 = .int .i64 (liveN pl : Nat) ∧ P.length ≤ i ∧ Hid (Pl w.heap.size i wr p bm pl) ∧ Hid (LvSt pl i P) ∧ Hid (wr.ownsRow W3.heap.size 3 1 v7 P.length (P.flatMap encI)) ∧ Hid (KP w.heap.size W3 wr)) (fun _ _ i _ => A.length - (intOf i).toNat)
 case atStart => exact ⟨0, pl0 3, [], Nat.zero_le _, rfl, rfl, Nat.zero_le _, HP3.out, LvSt.new 0, ⟨by simp, .inl ⟨rfl, rfl⟩⟩, KP.refl _ _⟩
 case round =>
  obtain ⟨i, pl, P, hiA, rfl, rfl, hPi, hpl, hst, hpo, hkp⟩ := hrel
  generalize wr = wo at *
  have HPL := hide hpl.out
  have HST := hide hst.out
  have HPO := hide hpo.out
  have HKP := hide hkp.out
  clear hpl hst hpo hkp
  obtain ⟨a7, c7, rfl⟩ := owns_shape HPO.out
  obtain ⟨lv, hlv⟩ : ∃ lv, liveN pl = lv := ⟨_, rfl⟩
  rw [hlv]
  have HLV := hide hlv
  clear hlv
  by_cases hlt : i < A.length
  ·have hltz : (i : Int) < A.length := by omega
   have hwi : IntKind.i64.wrap ((i : Int) + 1) = ((i + 1 : Nat) : Int) := by rw [IntKind.wrap_i64]; omega
   have HWI := hide hwi
   clear hwi
   obtain ⟨b, off, rfl, hbb, c0, c1, c2, c3⟩ := acts_at (Sl.of_own' (enc := encA) encA_len (HKP.out.own HAO.out (by decide) (by decide))) i hlt
   have hft := HFIT.out _ (List.getElem_mem hlt)
   generalize A[i] = act at c0 c1 c2 c3 hft
   obtain ⟨ac, pr, ve, bn⟩ := act
   obtain ⟨hf1, hf2, hf3, hf4, hf5, hf6⟩ := hft
   have hf1 : 0 ≤ ac := hf1
   have hf2 : ac ≤ 6 := hf2
   have hf3 : -1 ≤ pr := hf3
   have hf4 : pr ≤ 9 := hf4
   have hf5 : -2 ≤ ve := hf5
   have hf6 : ve ≤ 50 := hf6
   have c0 : wo.cell? ⟨b, off + i * 4, none⟩ = some (.int .i64 ac) := c0
   have c1 : wo.cell? ⟨b, off + i * 4 + 1, none⟩ = some (.int .i64 pr) := c1
   have c2 : wo.cell? ⟨b, off + i * 4 + 2, none⟩ = some (.int .i64 ve) := c2
   have c3 : wo.cell? ⟨b, off + i * 4 + 3, none⟩ = some (.bool bn) := c3
   have hx : Ext wo (wo.alloc (.cells #[.int .i64 ac, .int .i64 pr, .int .i64 ve, .bool bn] 66)) := (Below.refl _ _).alloc (Nat.le_refl _) _
   have hbx := heap_alloc_new wo (.cells #[.int .i64 ac, .int .i64 pr, .int .i64 ve, .bool bn] 66)
   go_upto_region 12 with (fail)
   generalize wo.alloc (.cells #[.int .i64 ac, .int .i64 pr, .int .i64 ve, .bool bn] 66) = w1 at hx hbx ⊢
   obtain ⟨b9, hb9⟩ : ∃ b, wo.heap.size = b := ⟨_, rfl⟩
   rw [hb9] at hbx ⊢
   have HBA := hide (show BoxA w1 b9 ⟨ac, pr, ve, bn⟩ from hbx)
   have HP1 := hide (HPL.out.ext hx)
   have HPO1 := hide (owns_ext HPO.out hx)
   have HK1 := hide (HKP.out.trans (KP.of_ext hx))
   have hI1 : I64 pr ∧ I64 ve := by constructor <;> constructor <;> omega
   have HI := hide hI1
   have d0 := HBA.out.cell 0 _ rfl
   have d1 := HBA.out.cell 1 _ rfl
   have d2 := HBA.out.cell 2 _ rfl
   have hnb : i < 1000000 := by omega
   clear c0 c1 c2 c3 hx hbx hb9 HPL HPO HKP hI1
   by_cases h0 : ac = 0
   ·subst h0
    go_upto_region 15 with (fail)
    refine wp_region_lit ?_
    refine wpList_plain rfl fun K hK => ?_
    go_simp
    refine hK _ _ ?_
    refine wpList_load_mid rfl 33 (.tmp 4) rfl b4 0 rfl (encC c) cd ((HK1.out.boxC HB3.out).range) hcd1 hcd2 Tryz.confSize ?_
    simp only [Act.put]
    go_wp2_with fail
    refine (pl_publish HP1.out W0.heap.size c (HK1.out.conf HO3.out) (Nat.le_trans HBB3.out HK1.out.size) G.out.1 (Nat.le_trans G.out.2.2 (by decide)) G.out.2.1 (HM.out.ext (HK1.out.ext HX3.out (Nat.le_refl _))) (by have := HST.out.len; omega) (Nat.le_trans HX3.out.size HK1.out.size)).mono ?_
    rintro e w5 ⟨rfl, ⟨bs, hp⟩, hk⟩
    obtain ⟨npl, hnpl⟩ : ∃ q, pubP pl bs = q := ⟨_, rfl⟩
    have HP5 := hide (show Pl w.heap.size (i + 1) w5 p bm npl from by rw [← hnpl]; exact hp.mono (Nat.le_succ i))
    have HS5 := hide (show LvSt npl (i + 1) P from by rw [← hnpl]; exact HST.out.pub bs)
    have HPO5 := hide (show (w5).ownsRow W3.heap.size 3 1 (.slice a7 P.length c7) P.length (P.flatMap encI) from hk.own HPO1.out (by decide) (by decide))
    have HK5 := hide (show KP w.heap.size W3 (w5) from HK1.out.trans hk)
    have HLE := hide (show lv ≤ liveN npl from by rw [← hnpl]; exact by rw [live_pub pl bs HST.out.k3, HLV.out]; exact Nat.le_refl _)
    have hnp5 : P.length ≤ i + 1 := by omega
    clear hp hk
    clear hnpl HP1 HPO1 HK1 HST HLV HI HBA d0 d1 d2
    have HIP := hide (show Ints w5 (.slice a7 P.length c7) P from Sl.of_own' (enc := encI) (fun _ => rfl) HPO5.out)
    have hnp := hnp5
    clear hnp5
    go_wp2_with fail
    refine (pl_live HP5.out).mono ?_
    rintro e w6 ⟨rfl, E6⟩
    have HP6 := hide (HP5.out.ext E6)
    have HPO6 := hide (owns_ext HPO5.out E6)
    have HIP6 := hide (HIP.out.ext E6)
    have HK6 := hide (HK5.out.trans (KP.of_ext E6))
    have hsl := HS5.out.live
    have hle := HLE.out
    obtain ⟨lw, hlw⟩ : ∃ lw, liveN npl = lw := ⟨_, rfl⟩
    rw [hlw] at hsl hle ⊢
    have HLW := hide hlw
    have hlez : ¬ (lw : Int) < (lv : Int) := by omega
    have hsn := pl_snap HP6.out (lw : Int)
    obtain ⟨sb, hsb⟩ : ∃ sb, (plSnap npl (lw : Int)).isSome = sb := ⟨_, rfl⟩
    rw [hsb] at hsn hsl
    obtain ⟨sp, hsp⟩ : ∃ sp, ptrO (plSnap npl (lw : Int)) = sp := ⟨_, rfl⟩
    rw [hsp] at hsn
    have HSN := hide hsn
    have HPM := hide (fun (x : Int) (hx : x ∈ P) => HS5.out.pinned hx)
    clear hlw hsn hsb hsp E6 HP5 HPO5 HIP HK5 hle HLE
    go_wp2_with fail
    refine HSN.out.mono ?_
    rintro e w7 ⟨rfl, rfl⟩
    clear HSN
    by_cases h0 : 0 < lw
    ·have hs1 := hsl h0
     subst hs1
     have h0z : (0 : Int) < (lw : Int) := by omega
     clear hsl h0
     go_wp2_with fail
     go_loopw [15] (fun v15 wr => ∃ k : Nat, k ≤ P.length ∧ v15 = .int .i64 k ∧ wr = w6) (fun i _ => P.length - (intOf i).toNat)
     case atStart => exact ⟨0, Nat.zero_le _, rfl, rfl⟩
     case round =>
      obtain ⟨k, hk, rfl, rfl⟩ := hrel
      by_cases hkl : k < P.length
      ·have hkz : (k : Int) < P.length := by omega
       have hwk : IntKind.i64.wrap ((k : Int) + 1) = ((k + 1 : Nat) : Int) := by rw [IntKind.wrap_i64]; omega
       obtain ⟨bq, oq, rfl, hbq, cq⟩ := ints_at HIP6.out k hkl
       have hpm := HPM.out _ (List.getElem_mem hkl)
       generalize P[k] = x at cq hpm
       have hsn := pl_snap HP6.out x
       rw [hpm] at hsn
       obtain ⟨sq, hsq⟩ : ∃ sp, ptrO (plSnap npl x) = sp := ⟨_, rfl⟩
       rw [hsq] at hsn
       have HSN := hide hsn
       have HWK := hide hwk
       clear hsn hsq hpm hwk
       go_wp2_with fail
       refine HSN.out.mono ?_
       rintro e w8 ⟨rfl, rfl⟩
       have hwk := HWK.out
       clear cq HSN
       go_wp2
       go_roundw
       case rel => exact ⟨k + 1, by omega, by go_num, by first | rfl | trivial⟩
       case measure => (simp [intOf]) <;> omega
      ·obtain rfl : k = P.length := by omega
       have hwi := HWI.out
       clear hkl
       go_wp2
       go_roundw
       case rel => exact ⟨i + 1, npl, P, by omega, by go_num, by rw [HLW.out], by omega, HP6.out, HS5.out, HPO6.out, HK6.out⟩
       case measure => (simp [intOf]) <;> omega
    ·have h0z : ¬ (0 : Int) < (lw : Int) := by omega
     clear hsl h0
     go_wp2_with fail
     go_loopw [15] (fun v15 wr => ∃ k : Nat, k ≤ P.length ∧ v15 = .int .i64 k ∧ wr = w6) (fun i _ => P.length - (intOf i).toNat)
     case atStart => exact ⟨0, Nat.zero_le _, rfl, rfl⟩
     case round =>
      obtain ⟨k, hk, rfl, rfl⟩ := hrel
      by_cases hkl : k < P.length
      ·have hkz : (k : Int) < P.length := by omega
       have hwk : IntKind.i64.wrap ((k : Int) + 1) = ((k + 1 : Nat) : Int) := by rw [IntKind.wrap_i64]; omega
       obtain ⟨bq, oq, rfl, hbq, cq⟩ := ints_at HIP6.out k hkl
       have hpm := HPM.out _ (List.getElem_mem hkl)
       generalize P[k] = x at cq hpm
       have hsn := pl_snap HP6.out x
       rw [hpm] at hsn
       obtain ⟨sq, hsq⟩ : ∃ sp, ptrO (plSnap npl x) = sp := ⟨_, rfl⟩
       rw [hsq] at hsn
       have HSN := hide hsn
       have HWK := hide hwk
       clear hsn hsq hpm hwk
       go_wp2_with fail
       refine HSN.out.mono ?_
       rintro e w8 ⟨rfl, rfl⟩
       have hwk := HWK.out
       clear cq HSN
       go_wp2
       go_roundw
       case rel => exact ⟨k + 1, by omega, by go_num, by first | rfl | trivial⟩
       case measure => (simp [intOf]) <;> omega
      ·obtain rfl : k = P.length := by omega
       have hwi := HWI.out
       clear hkl
       go_wp2
       go_roundw
       case rel => exact ⟨i + 1, npl, P, by omega, by go_num, by rw [HLW.out], by omega, HP6.out, HS5.out, HPO6.out, HK6.out⟩
       case measure => (simp [intOf]) <;> omega
   by_cases h3 : ac = 3
   ·subst h3
    go_wp2_with fail
    refine (pl_nack HP1.out pr ve HI.out hnb).mono ?_
    rintro e w5 ⟨rfl, hp, hk⟩
    have hst : LvSt (if sayE pl pr ve = 0 then sayP pl pr ve 2 else pl) (i + 1) P := by
     split
     ·rename_i hs
      exact (HST.out.nack pr ve hs).mono (Nat.le_succ i)
     ·exact HST.out.mono (Nat.le_succ i)
    have hlq : liveN (if sayE pl pr ve = 0 then sayP pl pr ve 2 else pl) = lv := by
     split
     ·exact HLV.out
     ·exact HLV.out
    obtain ⟨npl, hnpl⟩ : ∃ q, (if sayE pl pr ve = 0 then sayP pl pr ve 2 else pl) = q := ⟨_, rfl⟩
    have HP5 := hide (show Pl w.heap.size (i + 1) w5 p bm npl from by rw [← hnpl]; exact hp)
    have HS5 := hide (show LvSt npl (i + 1) P from by rw [← hnpl]; exact hst)
    have HPO5 := hide (show (w5).ownsRow W3.heap.size 3 1 (.slice a7 P.length c7) P.length (P.flatMap encI) from hk.own HPO1.out (by decide) (by decide))
    have HK5 := hide (show KP w.heap.size W3 (w5) from HK1.out.trans hk)
    have HLE := hide (show lv ≤ liveN npl from by rw [← hnpl]; exact by rw [hlq]; exact Nat.le_refl _)
    have hnp5 : P.length ≤ i + 1 := by omega
    obtain ⟨re, hre⟩ : ∃ re, sayE pl pr ve = re := ⟨_, rfl⟩
    rw [hre]
    clear hp hk hst hlq hre
    clear hnpl HP1 HPO1 HK1 HST HLV HI HBA d0 d1 d2
    have HIP := hide (show Ints w5 (.slice a7 P.length c7) P from Sl.of_own' (enc := encI) (fun _ => rfl) HPO5.out)
    have hnp := hnp5
    clear hnp5
    go_wp2_with fail
    refine (pl_live HP5.out).mono ?_
    rintro e w6 ⟨rfl, E6⟩
    have HP6 := hide (HP5.out.ext E6)
    have HPO6 := hide (owns_ext HPO5.out E6)
    have HIP6 := hide (HIP.out.ext E6)
    have HK6 := hide (HK5.out.trans (KP.of_ext E6))
    have hsl := HS5.out.live
    have hle := HLE.out
    obtain ⟨lw, hlw⟩ : ∃ lw, liveN npl = lw := ⟨_, rfl⟩
    rw [hlw] at hsl hle ⊢
    have HLW := hide hlw
    have hlez : ¬ (lw : Int) < (lv : Int) := by omega
    have hsn := pl_snap HP6.out (lw : Int)
    obtain ⟨sb, hsb⟩ : ∃ sb, (plSnap npl (lw : Int)).isSome = sb := ⟨_, rfl⟩
    rw [hsb] at hsn hsl
    obtain ⟨sp, hsp⟩ : ∃ sp, ptrO (plSnap npl (lw : Int)) = sp := ⟨_, rfl⟩
    rw [hsp] at hsn
    have HSN := hide hsn
    have HPM := hide (fun (x : Int) (hx : x ∈ P) => HS5.out.pinned hx)
    clear hlw hsn hsb hsp E6 HP5 HPO5 HIP HK5 hle HLE
    go_wp2_with fail
    refine HSN.out.mono ?_
    rintro e w7 ⟨rfl, rfl⟩
    clear HSN
    by_cases h0 : 0 < lw
    ·have hs1 := hsl h0
     subst hs1
     have h0z : (0 : Int) < (lw : Int) := by omega
     clear hsl h0
     go_wp2_with fail
     go_loopw [15] (fun v15 wr => ∃ k : Nat, k ≤ P.length ∧ v15 = .int .i64 k ∧ wr = w6) (fun i _ => P.length - (intOf i).toNat)
     case atStart => exact ⟨0, Nat.zero_le _, rfl, rfl⟩
     case round =>
      obtain ⟨k, hk, rfl, rfl⟩ := hrel
      by_cases hkl : k < P.length
      ·have hkz : (k : Int) < P.length := by omega
       have hwk : IntKind.i64.wrap ((k : Int) + 1) = ((k + 1 : Nat) : Int) := by rw [IntKind.wrap_i64]; omega
       obtain ⟨bq, oq, rfl, hbq, cq⟩ := ints_at HIP6.out k hkl
       have hpm := HPM.out _ (List.getElem_mem hkl)
       generalize P[k] = x at cq hpm
       have hsn := pl_snap HP6.out x
       rw [hpm] at hsn
       obtain ⟨sq, hsq⟩ : ∃ sp, ptrO (plSnap npl x) = sp := ⟨_, rfl⟩
       rw [hsq] at hsn
       have HSN := hide hsn
       have HWK := hide hwk
       clear hsn hsq hpm hwk
       go_wp2_with fail
       refine HSN.out.mono ?_
       rintro e w8 ⟨rfl, rfl⟩
       have hwk := HWK.out
       clear cq HSN
       go_wp2
       go_roundw
       case rel => exact ⟨k + 1, by omega, by go_num, by first | rfl | trivial⟩
       case measure => (simp [intOf]) <;> omega
      ·obtain rfl : k = P.length := by omega
       have hwi := HWI.out
       clear hkl
       go_wp2
       go_roundw
       case rel => exact ⟨i + 1, npl, P, by omega, by go_num, by rw [HLW.out], by omega, HP6.out, HS5.out, HPO6.out, HK6.out⟩
       case measure => (simp [intOf]) <;> omega
    ·have h0z : ¬ (0 : Int) < (lw : Int) := by omega
     clear hsl h0
     go_wp2_with fail
     go_loopw [15] (fun v15 wr => ∃ k : Nat, k ≤ P.length ∧ v15 = .int .i64 k ∧ wr = w6) (fun i _ => P.length - (intOf i).toNat)
     case atStart => exact ⟨0, Nat.zero_le _, rfl, rfl⟩
     case round =>
      obtain ⟨k, hk, rfl, rfl⟩ := hrel
      by_cases hkl : k < P.length
      ·have hkz : (k : Int) < P.length := by omega
       have hwk : IntKind.i64.wrap ((k : Int) + 1) = ((k + 1 : Nat) : Int) := by rw [IntKind.wrap_i64]; omega
       obtain ⟨bq, oq, rfl, hbq, cq⟩ := ints_at HIP6.out k hkl
       have hpm := HPM.out _ (List.getElem_mem hkl)
       generalize P[k] = x at cq hpm
       have hsn := pl_snap HP6.out x
       rw [hpm] at hsn
       obtain ⟨sq, hsq⟩ : ∃ sp, ptrO (plSnap npl x) = sp := ⟨_, rfl⟩
       rw [hsq] at hsn
       have HSN := hide hsn
       have HWK := hide hwk
       clear hsn hsq hpm hwk
       go_wp2_with fail
       refine HSN.out.mono ?_
       rintro e w8 ⟨rfl, rfl⟩
       have hwk := HWK.out
       clear cq HSN
       go_wp2
       go_roundw
       case rel => exact ⟨k + 1, by omega, by go_num, by first | rfl | trivial⟩
       case measure => (simp [intOf]) <;> omega
      ·obtain rfl : k = P.length := by omega
       have hwi := HWI.out
       clear hkl
       go_wp2
       go_roundw
       case rel => exact ⟨i + 1, npl, P, by omega, by go_num, by rw [HLW.out], by omega, HP6.out, HS5.out, HPO6.out, HK6.out⟩
       case measure => (simp [intOf]) <;> omega
   by_cases h4 : ac = 4
   ·subst h4
    by_cases hpe : pinE pl ve = 0
    ·have hvl : ve = (lv : Int) := by
      unfold pinE at hpe
      rw [HLV.out] at hpe
      split at hpe
      ·cases hpe
      ·rename_i hh
       exact Classical.not_not.1 fun e => hh (.inr e)
     have hst := HST.out.pinV ve hpe
     have hpn := pl_pin HP1.out ve HI.out.2 (HST.out.pinb (by omega))
     rw [hpe, if_pos rfl] at hpn
     have HPN := hide hpn
     have hlq := live_pin pl ve 1
     rw [HLV.out] at hlq
     have HLQ := hide hlq
     have HSQ := hide hst
     have HPE := hide hpe
     have hqe : (ve != (lv : Int)) = false := by simpa using hvl
     clear hpn hst hlq hpe hvl
     go_wp2_with fail
     refine HPN.out.mono ?_
     rintro e w4 ⟨rfl, hp, hk⟩
     have e2 : w4.cell? ⟨b9, 2, none⟩ = some (.int .i64 ve) := by
      have hb := HBA.out
      have := (hk.block b9 hb.lt (fun hx => by rcases hx.2 _ _ _ hb with e1 | e1 <;> exact absurd e1 (by decide))).trans hb
      exact BoxA.cell (a := ⟨4, pr, ve, bn⟩) this 2 _ rfl
     have hown := hk.own HPO1.out (by decide) (by decide)
     have HP4 := hide hp
     have HK4 := hide (HK1.out.trans hk)
     have hsz4 := HK4.out.size
     have HW4 := hide hown
     have hmx : P.length ≤ 40 := by omega
     clear hp hk d0 d1 d2 HPN
     go_wp2_with (at_builtin; refine wpList_append_own _ (by rfl) _ _ 22 (by rfl) W3.heap.size 3 i0 (.int .i64 0) 1 8 Tryz.underlying22 hi hz0 hz1 hz2 rfl (by decide) _ P.length _ (by rfl) (hown.alloc _) ⟨w4.heap.size, 0, none⟩ 1 1 [.int .i64 ve] (by rfl) (by rfl) (cells_new w4 [.int .i64 ve] 3) (by simp [Value.oneCell']) (by unfold maxLen; omega) (by omega) (by simp; omega) ?_; intro v5 w5 hown5 hgrow5 _)
     have hal : Ext w4 (w4.alloc (.cells #[.int .i64 ve] 3)) := (Below.refl _ _).alloc (Nat.le_refl _) _
     have hpa := (HP4.out.ext hal).keepT (Keeps.of_grown hgrow5 (X := fun q => (Value.slice a7 P.length c7).ownBlock = some q) (fun k hk => hk)) (OfT.own (hown.alloc _)) (by decide) (by decide) (by decide)
     have hka : KP w.heap.size W3 w5 := Keeps.app (HK4.out.trans (KP.of_ext hal)) (hown.alloc _) hgrow5
     obtain ⟨npl, hnpl⟩ : ∃ q, pinP pl ve 1 = q := ⟨_, rfl⟩
     obtain ⟨np, hnpq⟩ : ∃ q, (P ++ [ve]) = q := ⟨_, rfl⟩
     have HP5 := hide (show Pl w.heap.size (i + 1) w5 p bm npl from by rw [← hnpl]; exact hpa.mono (Nat.le_succ i))
     have HS5 := hide (show LvSt npl (i + 1) np from by rw [← hnpl, ← hnpq]; exact HSQ.out)
     have HPO5 := hide (show (w5).ownsRow W3.heap.size 3 1 v5 np.length (np.flatMap encI) from by rw [← hnpq]; exact by rw [List.length_append, List.flatMap_append]; exact hown5)
     have HK5 := hide (show KP w.heap.size W3 (w5) from hka)
     have HLE := hide (show lv ≤ liveN npl from by rw [← hnpl]; exact by rw [HLQ.out]; exact Nat.le_refl _)
     have hnp5 : np.length ≤ i + 1 := by rw [← hnpq]; rw [List.length_append]; show P.length + 1 ≤ i + 1; omega
     clear hpa hka hal hown5 hgrow5 hown HW4 HP4 HK4 HSQ HLQ HPE e2
     clear hnpl hnpq HP1 HPO1 HK1 HST HLV HI HBA
     obtain ⟨a5, c5, rfl⟩ := owns_shape HPO5.out
     have HIP := hide (show Ints w5 (.slice a5 np.length c5) np from Sl.of_own' (enc := encI) (fun _ => rfl) HPO5.out)
     have hnp := hnp5
     clear hnp5
     go_wp2_with fail
     refine (pl_live HP5.out).mono ?_
     rintro e w6 ⟨rfl, E6⟩
     have HP6 := hide (HP5.out.ext E6)
     have HPO6 := hide (owns_ext HPO5.out E6)
     have HIP6 := hide (HIP.out.ext E6)
     have HK6 := hide (HK5.out.trans (KP.of_ext E6))
     have hsl := HS5.out.live
     have hle := HLE.out
     obtain ⟨lw, hlw⟩ : ∃ lw, liveN npl = lw := ⟨_, rfl⟩
     rw [hlw] at hsl hle ⊢
     have HLW := hide hlw
     have hlez : ¬ (lw : Int) < (lv : Int) := by omega
     have hsn := pl_snap HP6.out (lw : Int)
     obtain ⟨sb, hsb⟩ : ∃ sb, (plSnap npl (lw : Int)).isSome = sb := ⟨_, rfl⟩
     rw [hsb] at hsn hsl
     obtain ⟨sp, hsp⟩ : ∃ sp, ptrO (plSnap npl (lw : Int)) = sp := ⟨_, rfl⟩
     rw [hsp] at hsn
     have HSN := hide hsn
     have HPM := hide (fun (x : Int) (hx : x ∈ np) => HS5.out.pinned hx)
     clear hlw hsn hsb hsp E6 HP5 HPO5 HIP HK5 hle HLE
     go_wp2_with fail
     refine HSN.out.mono ?_
     rintro e w7 ⟨rfl, rfl⟩
     clear HSN
     by_cases h0 : 0 < lw
     ·have hs1 := hsl h0
      subst hs1
      have h0z : (0 : Int) < (lw : Int) := by omega
      clear hsl h0
      go_wp2_with fail
      go_loopw [15] (fun v15 wr => ∃ k : Nat, k ≤ np.length ∧ v15 = .int .i64 k ∧ wr = w6) (fun i _ => np.length - (intOf i).toNat)
      case atStart => exact ⟨0, Nat.zero_le _, rfl, rfl⟩
      case round =>
       obtain ⟨k, hk, rfl, rfl⟩ := hrel
       by_cases hkl : k < np.length
       ·have hkz : (k : Int) < np.length := by omega
        have hwk : IntKind.i64.wrap ((k : Int) + 1) = ((k + 1 : Nat) : Int) := by rw [IntKind.wrap_i64]; omega
        obtain ⟨bq, oq, rfl, hbq, cq⟩ := ints_at HIP6.out k hkl
        have hpm := HPM.out _ (List.getElem_mem hkl)
        generalize np[k] = x at cq hpm
        have hsn := pl_snap HP6.out x
        rw [hpm] at hsn
        obtain ⟨sq, hsq⟩ : ∃ sp, ptrO (plSnap npl x) = sp := ⟨_, rfl⟩
        rw [hsq] at hsn
        have HSN := hide hsn
        have HWK := hide hwk
        clear hsn hsq hpm hwk
        go_wp2_with fail
        refine HSN.out.mono ?_
        rintro e w8 ⟨rfl, rfl⟩
        have hwk := HWK.out
        clear cq HSN
        go_wp2
        go_roundw
        case rel => exact ⟨k + 1, by omega, by go_num, by first | rfl | trivial⟩
        case measure => (simp [intOf]) <;> omega
       ·obtain rfl : k = np.length := by omega
        have hwi := HWI.out
        clear hkl
        go_wp2
        go_roundw
        case rel => exact ⟨i + 1, npl, np, by omega, by go_num, by rw [HLW.out], by omega, HP6.out, HS5.out, HPO6.out, HK6.out⟩
        case measure => (simp [intOf]) <;> omega
     ·have h0z : ¬ (0 : Int) < (lw : Int) := by omega
      clear hsl h0
      go_wp2_with fail
      go_loopw [15] (fun v15 wr => ∃ k : Nat, k ≤ np.length ∧ v15 = .int .i64 k ∧ wr = w6) (fun i _ => np.length - (intOf i).toNat)
      case atStart => exact ⟨0, Nat.zero_le _, rfl, rfl⟩
      case round =>
       obtain ⟨k, hk, rfl, rfl⟩ := hrel
       by_cases hkl : k < np.length
       ·have hkz : (k : Int) < np.length := by omega
        have hwk : IntKind.i64.wrap ((k : Int) + 1) = ((k + 1 : Nat) : Int) := by rw [IntKind.wrap_i64]; omega
        obtain ⟨bq, oq, rfl, hbq, cq⟩ := ints_at HIP6.out k hkl
        have hpm := HPM.out _ (List.getElem_mem hkl)
        generalize np[k] = x at cq hpm
        have hsn := pl_snap HP6.out x
        rw [hpm] at hsn
        obtain ⟨sq, hsq⟩ : ∃ sp, ptrO (plSnap npl x) = sp := ⟨_, rfl⟩
        rw [hsq] at hsn
        have HSN := hide hsn
        have HWK := hide hwk
        clear hsn hsq hpm hwk
        go_wp2_with fail
        refine HSN.out.mono ?_
        rintro e w8 ⟨rfl, rfl⟩
        have hwk := HWK.out
        clear cq HSN
        go_wp2
        go_roundw
        case rel => exact ⟨k + 1, by omega, by go_num, by first | rfl | trivial⟩
        case measure => (simp [intOf]) <;> omega
       ·obtain rfl : k = np.length := by omega
        have hwi := HWI.out
        clear hkl
        go_wp2
        go_roundw
        case rel => exact ⟨i + 1, npl, np, by omega, by go_num, by rw [HLW.out], by omega, HP6.out, HS5.out, HPO6.out, HK6.out⟩
        case measure => (simp [intOf]) <;> omega
    ·have hst := HST.out.mono (Nat.le_succ i)
     have hpn := pl_pin HP1.out ve HI.out.2 (HST.out.pinb (by omega))
     rw [if_neg hpe] at hpn
     obtain ⟨re, hre⟩ : ∃ re, pinE pl ve = re := ⟨_, rfl⟩
     rw [hre] at hpn hpe
     have hqe : (re == 0) = false := by simpa using hpe
     have HPN := hide hpn
     clear hpn hre hpe
     go_wp2_with fail
     refine HPN.out.mono ?_
     rintro e w5 ⟨rfl, hp, hk⟩
     obtain ⟨npl, hnpl⟩ : ∃ q, pl = q := ⟨_, rfl⟩
     have HP5 := hide (show Pl w.heap.size (i + 1) w5 p bm npl from by rw [← hnpl]; exact hp.mono (Nat.le_succ i))
     have HS5 := hide (show LvSt npl (i + 1) P from by rw [← hnpl]; exact hst)
     have HPO5 := hide (show (w5).ownsRow W3.heap.size 3 1 (.slice a7 P.length c7) P.length (P.flatMap encI) from hk.own HPO1.out (by decide) (by decide))
     have HK5 := hide (show KP w.heap.size W3 (w5) from HK1.out.trans hk)
     have HLE := hide (show lv ≤ liveN npl from by rw [← hnpl]; exact by rw [HLV.out]; exact Nat.le_refl _)
     have hnp5 : P.length ≤ i + 1 := by omega
     clear hp hk hst HPN
     clear hnpl HP1 HPO1 HK1 HST HLV HI HBA d0 d1 d2
     have HIP := hide (show Ints w5 (.slice a7 P.length c7) P from Sl.of_own' (enc := encI) (fun _ => rfl) HPO5.out)
     have hnp := hnp5
     clear hnp5
     go_wp2_with fail
     refine (pl_live HP5.out).mono ?_
     rintro e w6 ⟨rfl, E6⟩
     have HP6 := hide (HP5.out.ext E6)
     have HPO6 := hide (owns_ext HPO5.out E6)
     have HIP6 := hide (HIP.out.ext E6)
     have HK6 := hide (HK5.out.trans (KP.of_ext E6))
     have hsl := HS5.out.live
     have hle := HLE.out
     obtain ⟨lw, hlw⟩ : ∃ lw, liveN npl = lw := ⟨_, rfl⟩
     rw [hlw] at hsl hle ⊢
     have HLW := hide hlw
     have hlez : ¬ (lw : Int) < (lv : Int) := by omega
     have hsn := pl_snap HP6.out (lw : Int)
     obtain ⟨sb, hsb⟩ : ∃ sb, (plSnap npl (lw : Int)).isSome = sb := ⟨_, rfl⟩
     rw [hsb] at hsn hsl
     obtain ⟨sp, hsp⟩ : ∃ sp, ptrO (plSnap npl (lw : Int)) = sp := ⟨_, rfl⟩
     rw [hsp] at hsn
     have HSN := hide hsn
     have HPM := hide (fun (x : Int) (hx : x ∈ P) => HS5.out.pinned hx)
     clear hlw hsn hsb hsp E6 HP5 HPO5 HIP HK5 hle HLE
     go_wp2_with fail
     refine HSN.out.mono ?_
     rintro e w7 ⟨rfl, rfl⟩
     clear HSN
     by_cases h0 : 0 < lw
     ·have hs1 := hsl h0
      subst hs1
      have h0z : (0 : Int) < (lw : Int) := by omega
      clear hsl h0
      go_wp2_with fail
      go_loopw [15] (fun v15 wr => ∃ k : Nat, k ≤ P.length ∧ v15 = .int .i64 k ∧ wr = w6) (fun i _ => P.length - (intOf i).toNat)
      case atStart => exact ⟨0, Nat.zero_le _, rfl, rfl⟩
      case round =>
       obtain ⟨k, hk, rfl, rfl⟩ := hrel
       by_cases hkl : k < P.length
       ·have hkz : (k : Int) < P.length := by omega
        have hwk : IntKind.i64.wrap ((k : Int) + 1) = ((k + 1 : Nat) : Int) := by rw [IntKind.wrap_i64]; omega
        obtain ⟨bq, oq, rfl, hbq, cq⟩ := ints_at HIP6.out k hkl
        have hpm := HPM.out _ (List.getElem_mem hkl)
        generalize P[k] = x at cq hpm
        have hsn := pl_snap HP6.out x
        rw [hpm] at hsn
        obtain ⟨sq, hsq⟩ : ∃ sp, ptrO (plSnap npl x) = sp := ⟨_, rfl⟩
        rw [hsq] at hsn
        have HSN := hide hsn
        have HWK := hide hwk
        clear hsn hsq hpm hwk
        go_wp2_with fail
        refine HSN.out.mono ?_
        rintro e w8 ⟨rfl, rfl⟩
        have hwk := HWK.out
        clear cq HSN
        go_wp2
        go_roundw
        case rel => exact ⟨k + 1, by omega, by go_num, by first | rfl | trivial⟩
        case measure => (simp [intOf]) <;> omega
       ·obtain rfl : k = P.length := by omega
        have hwi := HWI.out
        clear hkl
        go_wp2
        go_roundw
        case rel => exact ⟨i + 1, npl, P, by omega, by go_num, by rw [HLW.out], by omega, HP6.out, HS5.out, HPO6.out, HK6.out⟩
        case measure => (simp [intOf]) <;> omega
     ·have h0z : ¬ (0 : Int) < (lw : Int) := by omega
      clear hsl h0
      go_wp2_with fail
      go_loopw [15] (fun v15 wr => ∃ k : Nat, k ≤ P.length ∧ v15 = .int .i64 k ∧ wr = w6) (fun i _ => P.length - (intOf i).toNat)
      case atStart => exact ⟨0, Nat.zero_le _, rfl, rfl⟩
      case round =>
       obtain ⟨k, hk, rfl, rfl⟩ := hrel
       by_cases hkl : k < P.length
       ·have hkz : (k : Int) < P.length := by omega
        have hwk : IntKind.i64.wrap ((k : Int) + 1) = ((k + 1 : Nat) : Int) := by rw [IntKind.wrap_i64]; omega
        obtain ⟨bq, oq, rfl, hbq, cq⟩ := ints_at HIP6.out k hkl
        have hpm := HPM.out _ (List.getElem_mem hkl)
        generalize P[k] = x at cq hpm
        have hsn := pl_snap HP6.out x
        rw [hpm] at hsn
        obtain ⟨sq, hsq⟩ : ∃ sp, ptrO (plSnap npl x) = sp := ⟨_, rfl⟩
        rw [hsq] at hsn
        have HSN := hide hsn
        have HWK := hide hwk
        clear hsn hsq hpm hwk
        go_wp2_with fail
        refine HSN.out.mono ?_
        rintro e w8 ⟨rfl, rfl⟩
        have hwk := HWK.out
        clear cq HSN
        go_wp2
        go_roundw
        case rel => exact ⟨k + 1, by omega, by go_num, by first | rfl | trivial⟩
        case measure => (simp [intOf]) <;> omega
       ·obtain rfl : k = P.length := by omega
        have hwi := HWI.out
        clear hkl
        go_wp2
        go_roundw
        case rel => exact ⟨i + 1, npl, P, by omega, by go_num, by rw [HLW.out], by omega, HP6.out, HS5.out, HPO6.out, HK6.out⟩
        case measure => (simp [intOf]) <;> omega
   by_cases h6 : ac = 6
   ·subst h6
    have hdr := pl_drop HP1.out (by have := HST.out.len; omega)
    rw [HLV.out] at hdr
    have HDR := hide hdr
    have hst := (HST.out.drop (lv - 1) (by rw [HLV.out]; omega)).mono (Nat.le_succ i)
    have HSQ := hide hst
    have hgn := fun (x : Int) (hx : x ∈ goneN pl (lv - 1)) => HST.out.gone (x := x) (by rw [HLV.out]; exact hx)
    rw [HLV.out] at hgn
    have hlq := live_drop pl (lv - 1)
    rw [HLV.out] at hlq
    have HLQ := hide hlq
    obtain ⟨GN, hGN⟩ : ∃ GN, goneN pl (lv - 1) = GN := ⟨_, rfl⟩
    have hgl := goneN_len pl (lv - 1)
    have hlb : lv ≤ pl.V.length := by rw [← HLV.out]; exact gtN_le _ _
    have hplb := HST.out.len
    rw [hGN] at HDR hgn hgl
    have HGN := hide hgn
    have hgl40 : GN.length ≤ 40 := by omega
    clear hdr hst hgn hlq hGN hgl hlb hplb
    go_wp2_with fail
    refine HDR.out.mono ?_
    rintro e w4 ⟨v10, rfl, hown, hp, hk⟩
    obtain ⟨a10, c10, rfl⟩ := owns_shape hown
    have HIG := hide (show Ints w4 (.slice a10 GN.length c10) GN from Sl.of_own' (enc := encI) (fun _ => rfl) hown)
    have hpo4 := hk.own HPO1.out (by decide) (by decide)
    have HIPP := hide (show Ints w4 (.slice a7 P.length c7) P from Sl.of_own' (enc := encI) (fun _ => rfl) hpo4)
    have HPO4 := hide hpo4
    have HP4 := hide hp
    have HK4 := hide (HK1.out.trans hk)
    clear hown hp hk HDR hpo4 d0 d1 d2
    go_wp2_with fail
    go_loopw [11] (fun v11 wr => ∃ k : Nat, k ≤ GN.length ∧ v11 = .int .i64 k ∧ wr = w4) (fun i _ => GN.length - (intOf i).toNat)
    case atStart => exact ⟨0, Nat.zero_le _, rfl, rfl⟩
    case round =>
     obtain ⟨k, hk, rfl, rfl⟩ := hrel
     by_cases hkl : k < GN.length
     ·have hkz : (k : Int) < GN.length := by omega
      have hwk : IntKind.i64.wrap ((k : Int) + 1) = ((k + 1 : Nat) : Int) := by rw [IntKind.wrap_i64]; omega
      obtain ⟨bq, oq, rfl, hbq, cq⟩ := ints_at HIG.out k hkl
      have hg := HGN.out _ (List.getElem_mem hkl)
      generalize GN[k] = x at cq hg
      have hxl : ¬ (x : Int) ≥ (lv : Int) := by omega
      have hct : P.contains x = false := by
       cases hc : P.contains x with
       | false => rfl
       | true => exact absurd (List.contains_iff_mem.1 hc) hg.2
      have hha := has_any P x _ wr HIPP.out
      rw [hct] at hha
      have HHA := hide hha
      have HWK := hide hwk
      clear hha hct hg hwk
      go_wp2_with fail
      refine HHA.out.mono ?_
      rintro e w8 ⟨rfl, rfl⟩
      have hwk := HWK.out
      clear cq HHA
      go_wp2
      go_roundw
      case rel => exact ⟨k + 1, by omega, by go_num, by first | rfl | trivial⟩
      case measure => (simp [intOf]) <;> omega
     ·obtain rfl : k = GN.length := by omega
      have w5e : ∃ w5, wr = w5 := ⟨_, rfl⟩
      obtain ⟨w5, hw5⟩ := w5e
      rw [hw5] at HP4 HPO4 HK4 ⊢
      obtain ⟨npl, hnpl⟩ : ∃ q, dropN pl (lv - 1) = q := ⟨_, rfl⟩
      have HP5 := hide (show Pl w.heap.size (i + 1) w5 p bm npl from by rw [← hnpl]; exact HP4.out.mono (Nat.le_succ i))
      have HS5 := hide (show LvSt npl (i + 1) P from by rw [← hnpl]; exact HSQ.out)
      have HPO5 := hide (show (w5).ownsRow W3.heap.size 3 1 (.slice a7 P.length c7) P.length (P.flatMap encI) from HPO4.out)
      have HK5 := hide (show KP w.heap.size W3 (w5) from HK4.out)
      have HLE := hide (show lv ≤ liveN npl from by rw [← hnpl]; exact by rw [HLQ.out]; exact Nat.le_refl _)
      have hnp5 : P.length ≤ i + 1 := by omega
      clear HP4 HK4 HPO4 HSQ HLQ HIG HIPP HGN hw5 hkl
      clear hnpl HP1 HPO1 HK1 HST HLV HI HBA
      have HIP := hide (show Ints w5 (.slice a7 P.length c7) P from Sl.of_own' (enc := encI) (fun _ => rfl) HPO5.out)
      have hnp := hnp5
      clear hnp5
      go_wp2_with fail
      refine (pl_live HP5.out).mono ?_
      rintro e w6 ⟨rfl, E6⟩
      have HP6 := hide (HP5.out.ext E6)
      have HPO6 := hide (owns_ext HPO5.out E6)
      have HIP6 := hide (HIP.out.ext E6)
      have HK6 := hide (HK5.out.trans (KP.of_ext E6))
      have hsl := HS5.out.live
      have hle := HLE.out
      obtain ⟨lw, hlw⟩ : ∃ lw, liveN npl = lw := ⟨_, rfl⟩
      rw [hlw] at hsl hle ⊢
      have HLW := hide hlw
      have hlez : ¬ (lw : Int) < (lv : Int) := by omega
      have hsn := pl_snap HP6.out (lw : Int)
      obtain ⟨sb, hsb⟩ : ∃ sb, (plSnap npl (lw : Int)).isSome = sb := ⟨_, rfl⟩
      rw [hsb] at hsn hsl
      obtain ⟨sp, hsp⟩ : ∃ sp, ptrO (plSnap npl (lw : Int)) = sp := ⟨_, rfl⟩
      rw [hsp] at hsn
      have HSN := hide hsn
      have HPM := hide (fun (x : Int) (hx : x ∈ P) => HS5.out.pinned hx)
      clear hlw hsn hsb hsp E6 HP5 HPO5 HIP HK5 hle HLE
      go_wp2_with fail
      refine HSN.out.mono ?_
      rintro e w7 ⟨rfl, rfl⟩
      clear HSN
      by_cases h0 : 0 < lw
      ·have hs1 := hsl h0
       subst hs1
       have h0z : (0 : Int) < (lw : Int) := by omega
       clear hsl h0
       go_wp2_with fail
       go_loopw [15] (fun v15 wr => ∃ k : Nat, k ≤ P.length ∧ v15 = .int .i64 k ∧ wr = w6) (fun i _ => P.length - (intOf i).toNat)
       case atStart => exact ⟨0, Nat.zero_le _, rfl, rfl⟩
       case round =>
        obtain ⟨k, hk, rfl, rfl⟩ := hrel
        by_cases hkl : k < P.length
        ·have hkz : (k : Int) < P.length := by omega
         have hwk : IntKind.i64.wrap ((k : Int) + 1) = ((k + 1 : Nat) : Int) := by rw [IntKind.wrap_i64]; omega
         obtain ⟨bq, oq, rfl, hbq, cq⟩ := ints_at HIP6.out k hkl
         have hpm := HPM.out _ (List.getElem_mem hkl)
         generalize P[k] = x at cq hpm
         have hsn := pl_snap HP6.out x
         rw [hpm] at hsn
         obtain ⟨sq, hsq⟩ : ∃ sp, ptrO (plSnap npl x) = sp := ⟨_, rfl⟩
         rw [hsq] at hsn
         have HSN := hide hsn
         have HWK := hide hwk
         clear hsn hsq hpm hwk
         go_wp2_with fail
         refine HSN.out.mono ?_
         rintro e w8 ⟨rfl, rfl⟩
         have hwk := HWK.out
         clear cq HSN
         go_wp2
         go_roundw
         case rel => exact ⟨k + 1, by omega, by go_num, by first | rfl | trivial⟩
         case measure => (simp [intOf]) <;> omega
        ·obtain rfl : k = P.length := by omega
         have hwi := HWI.out
         clear hkl
         go_wp2
         go_roundw
         case rel => exact ⟨i + 1, npl, P, by omega, by go_num, by rw [HLW.out], by omega, HP6.out, HS5.out, HPO6.out, HK6.out⟩
         case measure => (simp [intOf]) <;> omega
      ·have h0z : ¬ (0 : Int) < (lw : Int) := by omega
       clear hsl h0
       go_wp2_with fail
       go_loopw [15] (fun v15 wr => ∃ k : Nat, k ≤ P.length ∧ v15 = .int .i64 k ∧ wr = w6) (fun i _ => P.length - (intOf i).toNat)
       case atStart => exact ⟨0, Nat.zero_le _, rfl, rfl⟩
       case round =>
        obtain ⟨k, hk, rfl, rfl⟩ := hrel
        by_cases hkl : k < P.length
        ·have hkz : (k : Int) < P.length := by omega
         have hwk : IntKind.i64.wrap ((k : Int) + 1) = ((k + 1 : Nat) : Int) := by rw [IntKind.wrap_i64]; omega
         obtain ⟨bq, oq, rfl, hbq, cq⟩ := ints_at HIP6.out k hkl
         have hpm := HPM.out _ (List.getElem_mem hkl)
         generalize P[k] = x at cq hpm
         have hsn := pl_snap HP6.out x
         rw [hpm] at hsn
         obtain ⟨sq, hsq⟩ : ∃ sp, ptrO (plSnap npl x) = sp := ⟨_, rfl⟩
         rw [hsq] at hsn
         have HSN := hide hsn
         have HWK := hide hwk
         clear hsn hsq hpm hwk
         go_wp2_with fail
         refine HSN.out.mono ?_
         rintro e w8 ⟨rfl, rfl⟩
         have hwk := HWK.out
         clear cq HSN
         go_wp2
         go_roundw
         case rel => exact ⟨k + 1, by omega, by go_num, by first | rfl | trivial⟩
         case measure => (simp [intOf]) <;> omega
        ·obtain rfl : k = P.length := by omega
         have hwi := HWI.out
         clear hkl
         go_wp2
         go_roundw
         case rel => exact ⟨i + 1, npl, P, by omega, by go_num, by rw [HLW.out], by omega, HP6.out, HS5.out, HPO6.out, HK6.out⟩
         case measure => (simp [intOf]) <;> omega
   have q0 : (ac == 0) = false := by simpa using h0
   have q3 : (ac == 3) = false := by simpa using h3
   have q4 : (ac == 4) = false := by simpa using h4
   have q6 : (ac == 6) = false := by simpa using h6
   clear h0 h3 h4 h6
   go_wp2_with fail
   refine (pl_ack HP1.out pr ve HI.out hnb HST.out.ackb).mono ?_
   rintro e w5 ⟨rfl, hp, hk⟩
   have hst : LvSt (if sayE pl pr ve = 0 then ackP pl pr ve else pl) (i + 1) P := by
    split
    ·rename_i hs
     exact (HST.out.ack pr ve hs).mono (Nat.le_succ i)
    ·exact HST.out.mono (Nat.le_succ i)
   have hlq : lv ≤ liveN (if sayE pl pr ve = 0 then ackP pl pr ve else pl) := by
    split
    ·rename_i hs
     rw [← HLV.out]
     exact live_ack HST.out pr ve hs
    ·rw [HLV.out]
     exact Nat.le_refl _
   obtain ⟨npl, hnpl⟩ : ∃ q, (if sayE pl pr ve = 0 then ackP pl pr ve else pl) = q := ⟨_, rfl⟩
   have HP5 := hide (show Pl w.heap.size (i + 1) w5 p bm npl from by rw [← hnpl]; exact hp)
   have HS5 := hide (show LvSt npl (i + 1) P from by rw [← hnpl]; exact hst)
   have HPO5 := hide (show (w5).ownsRow W3.heap.size 3 1 (.slice a7 P.length c7) P.length (P.flatMap encI) from hk.own HPO1.out (by decide) (by decide))
   have HK5 := hide (show KP w.heap.size W3 (w5) from HK1.out.trans hk)
   have HLE := hide (show lv ≤ liveN npl from by rw [← hnpl]; exact hlq)
   have hnp5 : P.length ≤ i + 1 := by omega
   obtain ⟨re, hre⟩ : ∃ re, sayE pl pr ve = re := ⟨_, rfl⟩
   rw [hre]
   clear hp hk hst hlq hre
   clear hnpl HP1 HPO1 HK1 HST HLV HI HBA d0 d1 d2
   have HIP := hide (show Ints w5 (.slice a7 P.length c7) P from Sl.of_own' (enc := encI) (fun _ => rfl) HPO5.out)
   have hnp := hnp5
   clear hnp5
   go_wp2_with fail
   refine (pl_live HP5.out).mono ?_
   rintro e w6 ⟨rfl, E6⟩
   have HP6 := hide (HP5.out.ext E6)
   have HPO6 := hide (owns_ext HPO5.out E6)
   have HIP6 := hide (HIP.out.ext E6)
   have HK6 := hide (HK5.out.trans (KP.of_ext E6))
   have hsl := HS5.out.live
   have hle := HLE.out
   obtain ⟨lw, hlw⟩ : ∃ lw, liveN npl = lw := ⟨_, rfl⟩
   rw [hlw] at hsl hle ⊢
   have HLW := hide hlw
   have hlez : ¬ (lw : Int) < (lv : Int) := by omega
   have hsn := pl_snap HP6.out (lw : Int)
   obtain ⟨sb, hsb⟩ : ∃ sb, (plSnap npl (lw : Int)).isSome = sb := ⟨_, rfl⟩
   rw [hsb] at hsn hsl
   obtain ⟨sp, hsp⟩ : ∃ sp, ptrO (plSnap npl (lw : Int)) = sp := ⟨_, rfl⟩
   rw [hsp] at hsn
   have HSN := hide hsn
   have HPM := hide (fun (x : Int) (hx : x ∈ P) => HS5.out.pinned hx)
   clear hlw hsn hsb hsp E6 HP5 HPO5 HIP HK5 hle HLE
   go_wp2_with fail
   refine HSN.out.mono ?_
   rintro e w7 ⟨rfl, rfl⟩
   clear HSN
   by_cases h0 : 0 < lw
   ·have hs1 := hsl h0
    subst hs1
    have h0z : (0 : Int) < (lw : Int) := by omega
    clear hsl h0
    go_wp2_with fail
    go_loopw [15] (fun v15 wr => ∃ k : Nat, k ≤ P.length ∧ v15 = .int .i64 k ∧ wr = w6) (fun i _ => P.length - (intOf i).toNat)
    case atStart => exact ⟨0, Nat.zero_le _, rfl, rfl⟩
    case round =>
     obtain ⟨k, hk, rfl, rfl⟩ := hrel
     by_cases hkl : k < P.length
     ·have hkz : (k : Int) < P.length := by omega
      have hwk : IntKind.i64.wrap ((k : Int) + 1) = ((k + 1 : Nat) : Int) := by rw [IntKind.wrap_i64]; omega
      obtain ⟨bq, oq, rfl, hbq, cq⟩ := ints_at HIP6.out k hkl
      have hpm := HPM.out _ (List.getElem_mem hkl)
      generalize P[k] = x at cq hpm
      have hsn := pl_snap HP6.out x
      rw [hpm] at hsn
      obtain ⟨sq, hsq⟩ : ∃ sp, ptrO (plSnap npl x) = sp := ⟨_, rfl⟩
      rw [hsq] at hsn
      have HSN := hide hsn
      have HWK := hide hwk
      clear hsn hsq hpm hwk
      go_wp2_with fail
      refine HSN.out.mono ?_
      rintro e w8 ⟨rfl, rfl⟩
      have hwk := HWK.out
      clear cq HSN
      go_wp2
      go_roundw
      case rel => exact ⟨k + 1, by omega, by go_num, by first | rfl | trivial⟩
      case measure => (simp [intOf]) <;> omega
     ·obtain rfl : k = P.length := by omega
      have hwi := HWI.out
      clear hkl
      go_wp2
      go_roundw
      case rel => exact ⟨i + 1, npl, P, by omega, by go_num, by rw [HLW.out], by omega, HP6.out, HS5.out, HPO6.out, HK6.out⟩
      case measure => (simp [intOf]) <;> omega
   ·have h0z : ¬ (0 : Int) < (lw : Int) := by omega
    clear hsl h0
    go_wp2_with fail
    go_loopw [15] (fun v15 wr => ∃ k : Nat, k ≤ P.length ∧ v15 = .int .i64 k ∧ wr = w6) (fun i _ => P.length - (intOf i).toNat)
    case atStart => exact ⟨0, Nat.zero_le _, rfl, rfl⟩
    case round =>
     obtain ⟨k, hk, rfl, rfl⟩ := hrel
     by_cases hkl : k < P.length
     ·have hkz : (k : Int) < P.length := by omega
      have hwk : IntKind.i64.wrap ((k : Int) + 1) = ((k + 1 : Nat) : Int) := by rw [IntKind.wrap_i64]; omega
      obtain ⟨bq, oq, rfl, hbq, cq⟩ := ints_at HIP6.out k hkl
      have hpm := HPM.out _ (List.getElem_mem hkl)
      generalize P[k] = x at cq hpm
      have hsn := pl_snap HP6.out x
      rw [hpm] at hsn
      obtain ⟨sq, hsq⟩ : ∃ sp, ptrO (plSnap npl x) = sp := ⟨_, rfl⟩
      rw [hsq] at hsn
      have HSN := hide hsn
      have HWK := hide hwk
      clear hsn hsq hpm hwk
      go_wp2_with fail
      refine HSN.out.mono ?_
      rintro e w8 ⟨rfl, rfl⟩
      have hwk := HWK.out
      clear cq HSN
      go_wp2
      go_roundw
      case rel => exact ⟨k + 1, by omega, by go_num, by first | rfl | trivial⟩
      case measure => (simp [intOf]) <;> omega
     ·obtain rfl : k = P.length := by omega
      have hwi := HWI.out
      clear hkl
      go_wp2
      go_roundw
      case rel => exact ⟨i + 1, npl, P, by omega, by go_num, by rw [HLW.out], by omega, HP6.out, HS5.out, HPO6.out, HK6.out⟩
      case measure => (simp [intOf]) <;> omega
  ·obtain rfl : i = A.length := by omega
   have HXZ := hide (HKP.out.ext HX3.out (Nat.le_refl _))
   clear HPL HST HPO HKP HP3 HB3 HO3 hlt
   go_wp2_with fail
   refine (lives17_any wo (HM.out.ext HXZ.out)).mono ?_
   rintro e w9 ⟨rfl, E9⟩
   have HZ := hide (HXZ.out.trans E9)
   clear E9 HXZ
   go_wp2
   go_ret
   exact ⟨rfl, HZ.out⟩
end Go.Proofs.YtnnddjmdpplolaaGreatDoor
