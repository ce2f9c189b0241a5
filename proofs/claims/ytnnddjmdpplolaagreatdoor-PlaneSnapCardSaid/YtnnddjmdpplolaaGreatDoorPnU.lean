/- PlaneSnap: its walk (printed by wip/gen_pnu.py). -/
import Derived.Test.YtnnddjmdpplolaaGreatDoorPnR
import Derived.Test.YtnnddjmdpplolaaGreatDoorSnN
import Derived.Test.YtnnddjmdpplolaaGreatDoorZrw
import Derived.BigFrame
import Derived.Lib.Builder
namespace Go.Proofs.YtnnddjmdpplolaaGreatDoor
open Go.ChangeShapes Go.WideShapes Go.ChangeAt Go.RowKit Go.Lib Go.Shelf Go.Maps
set_option maxRecDepth 100000 in
theorem frame147 (x : Nat → Value) : frameOf 147 x = #[x 0, x 1, x 2, x 3, x 4, x 5, x 6, x 7, x 8, x 9, x 10, x 11, x 12, x 13, x 14, x 15, x 16, x 17, x 18, x 19, x 20, x 21, x 22, x 23, x 24, x 25, x 26, x 27, x 28, x 29, x 30, x 31, x 32, x 33, x 34, x 35, x 36, x 37, x 38, x 39, x 40, x 41, x 42, x 43, x 44, x 45, x 46, x 47, x 48, x 49, x 50, x 51, x 52, x 53, x 54, x 55, x 56, x 57, x 58, x 59, x 60, x 61, x 62, x 63, x 64, x 65, x 66, x 67, x 68, x 69, x 70, x 71, x 72, x 73, x 74, x 75, x 76, x 77, x 78, x 79, x 80, x 81, x 82, x 83, x 84, x 85, x 86, x 87, x 88, x 89, x 90, x 91, x 92, x 93, x 94, x 95, x 96, x 97, x 98, x 99, x 100, x 101, x 102, x 103, x 104, x 105, x 106, x 107, x 108, x 109, x 110, x 111, x 112, x 113, x 114, x 115, x 116, x 117, x 118, x 119, x 120, x 121, x 122, x 123, x 124, x 125, x 126, x 127, x 128, x 129, x 130, x 131, x 132, x 133, x 134, x 135, x 136, x 137, x 138, x 139, x 140, x 141, x 142, x 143, x 144, x 145, x 146] := rfl
theorem snapInfo : (Tryz.prog.info? 61).isSome = true := by kernel_rfl
theorem snap_same (q : Addr) (X : World) : (binOp .neq 47 (.pointer (some q)) (.pointer (some q))).run Tryz.prog X = .ok (.bool false) X := by
 obtain ⟨j, hj⟩ := Option.isSome_iff_exists.1 snapInfo
 exact run_neq_ptr_same X q Tryz.underlying47 hj
set_option maxRecDepth 100000 in
set_option maxHeartbeats 16000000 in
theorem snap17_walk (L : List Int) (v : Value) (w : World) (hs : Ints w v L) (hL : ∀ x ∈ L, I64 x) (hm : MaxV w) :
  Calls Tryz.prog 4 #[v] w fun e w' => e = .returned (.bool true) ∧ Ext w w' := by
 obtain ⟨cd, hcd1, hcd2⟩ := Tryz.confDesc
 obtain ⟨dv, hdv1, hdv2⟩ := Tryz.svcDesc
 obtain ⟨_, a, cap, rfl⟩ := hs.shape
 have HM := hide hm
 have HS := hide hs
 have HL := hide hL
 clear hs hL hm
 go_enter Tryz.func4, Tryz.ntmps4
 go_wp2_with fail
 refine (planeNew_any 1 w (by decide)).mono ?_
 rintro e W0 ⟨p, bm, rfl, hp0, E0⟩
 have HP := hide hp0
 have HE0 := hide E0
 clear hp0 E0
 go_wp2_with fail
 refine (conf_any L _ W0 (HS.out.ext HE0.out) HL.out).mono ?_
 rintro e W1 ⟨c, rfl, hc, ho, E1⟩
 have HCC := hide hc
 clear hc
 have hbz := heap_alloc_new W1 (.cells #[.slice none 0 0, .slice none 0 0, .slice none 0 0, .slice none 0 0, .int .i64 0, .int .i64 0, .int .i64 0, .int .i64 0, .int .i64 0, .int .i64 0, .int .i64 0, .int .i64 0, .int .i64 0, .int .i64 0, .int .i64 0, .int .i64 0, .int .i64 0, .int .i64 0, .int .i64 0, .int .i64 0] 33)
 have hxz : Ext W1 (W1.alloc (.cells #[.slice none 0 0, .slice none 0 0, .slice none 0 0, .slice none 0 0, .int .i64 0, .int .i64 0, .int .i64 0, .int .i64 0, .int .i64 0, .int .i64 0, .int .i64 0, .int .i64 0, .int .i64 0, .int .i64 0, .int .i64 0, .int .i64 0, .int .i64 0, .int .i64 0, .int .i64 0, .int .i64 0] 33)) := (Below.refl _ _).alloc (Nat.le_refl _) _
 have hth : (W1.alloc (.cells #[.slice none 0 0, .slice none 0 0, .slice none 0 0, .slice none 0 0, .int .i64 0, .int .i64 0, .int .i64 0, .int .i64 0, .int .i64 0, .int .i64 0, .int .i64 0, .int .i64 0, .int .i64 0, .int .i64 0, .int .i64 0, .int .i64 0, .int .i64 0, .int .i64 0, .int .i64 0, .int .i64 0] 33)).there W1.heap.size 0 20 := fun q hq => by
  rw [Nat.zero_add]
  refine ⟨?_, by simp only [World.frozen?]; rw [hbz]; simp⟩
  simp only [World.cell?, hbz]
  simp [hq]
 go_upto_region 5 with (refine wpList_store_mid rfl 33 (.tmp 4) (.tmp 23) rfl W1.heap.size 0 (encC c).toArray rfl rfl hth Tryz.confSize (all_oneCell_toArray (encC_one' ho)) ?_)
 generalize W1.alloc (.cells #[.slice none 0 0, .slice none 0 0, .slice none 0 0, .slice none 0 0, .int .i64 0, .int .i64 0, .int .i64 0, .int .i64 0, .int .i64 0, .int .i64 0, .int .i64 0, .int .i64 0, .int .i64 0, .int .i64 0, .int .i64 0, .int .i64 0, .int .i64 0, .int .i64 0, .int .i64 0, .int .i64 0] 33) = Wz at hbz hxz hth ⊢
 obtain ⟨b4, hbe⟩ : ∃ b, W1.heap.size = b := ⟨_, rfl⟩
 rw [hbe] at hbz hth ⊢
 have hbb4 : w.heap.size ≤ b4 := by have := (HE0.out.trans E1).size; omega
 have hrs := World.rangeAt_setCells_same Wz b4 0 (encC c) hth
 obtain ⟨cs, hcs1, hcs2⟩ := setCells_block b4 33 (0, 0) (encC c) 0 Wz _ hbz
 have hk5 := keeps_setCells b4 (encC c) 0 Wz
 show Code.wp _ _ _ _ (Wz.setCells b4 0 (encC c))
 generalize Wz.setCells b4 0 (encC c) = W2 at hrs hk5 hcs1 ⊢
 have HB2 := hide (show BoxC W2 b4 c from BoxC.of_range hcs1 (by rw [hcs2]; rfl) hrs)
 have HX2 := hide (Keeps.ext ((HE0.out.trans E1).trans hxz) hk5 (fun g hg => by omega))
 have HO2 := hide (((ho).ext hxz).keepT hk5 (OfT.one hbz) (by decide) (by decide) (by decide) (by decide) (by decide) (by decide) (by decide))
 have hGb4 : W1.heap.size ≤ b4 := by omega
 have hEb4 : Ext W1 W2 := ((Keeps.of_ext hxz).trans hk5 : Keeps (fun g => g = b4) W1 W2).below (Nat.le_refl _) (fun g hg => by omega)
 clear hrs hk5 hcs1 hcs2 hbz hxz hth
 have hlt := HB2.out.lt
 have HP2 := hide (HP.out.ext (E1.trans hEb4))
 have h02 : W0.heap.size ≤ W2.heap.size := by have := E1.size; have := hEb4.size; omega
 have H02 := hide h02
 clear ho E1 hEb4 hlt HP h02
 go_wp2_with fail
 refine (conf_any L _ W2 (HS.out.ext HX2.out) HL.out).mono ?_
 rintro e W4 ⟨cw, rfl, hcw, ho, E24⟩
 have HCW := hide hcw
 have hoe := hide ho
 clear hcw HS HL
 have hbz := heap_alloc_new W4 (.cells #[.slice none 0 0, .slice none 0 0, .slice none 0 0, .slice none 0 0, .int .i64 0, .int .i64 0, .int .i64 0, .int .i64 0, .int .i64 0, .int .i64 0, .int .i64 0, .int .i64 0, .int .i64 0, .int .i64 0, .int .i64 0, .int .i64 0, .int .i64 0, .int .i64 0, .int .i64 0, .int .i64 0] 33)
 have hxz : Ext W4 (W4.alloc (.cells #[.slice none 0 0, .slice none 0 0, .slice none 0 0, .slice none 0 0, .int .i64 0, .int .i64 0, .int .i64 0, .int .i64 0, .int .i64 0, .int .i64 0, .int .i64 0, .int .i64 0, .int .i64 0, .int .i64 0, .int .i64 0, .int .i64 0, .int .i64 0, .int .i64 0, .int .i64 0, .int .i64 0] 33)) := (Below.refl _ _).alloc (Nat.le_refl _) _
 have hth : (W4.alloc (.cells #[.slice none 0 0, .slice none 0 0, .slice none 0 0, .slice none 0 0, .int .i64 0, .int .i64 0, .int .i64 0, .int .i64 0, .int .i64 0, .int .i64 0, .int .i64 0, .int .i64 0, .int .i64 0, .int .i64 0, .int .i64 0, .int .i64 0, .int .i64 0, .int .i64 0, .int .i64 0, .int .i64 0] 33)).there W4.heap.size 0 20 := fun q hq => by
  rw [Nat.zero_add]
  refine ⟨?_, by simp only [World.frozen?]; rw [hbz]; simp⟩
  simp only [World.cell?, hbz]
  simp [hq]
 go_upto_region 6 with (refine wpList_store_mid rfl 33 (.tmp 5) (.tmp 25) rfl W4.heap.size 0 (encC cw).toArray rfl rfl hth Tryz.confSize (all_oneCell_toArray (encC_one' hoe.out)) ?_)
 generalize W4.alloc (.cells #[.slice none 0 0, .slice none 0 0, .slice none 0 0, .slice none 0 0, .int .i64 0, .int .i64 0, .int .i64 0, .int .i64 0, .int .i64 0, .int .i64 0, .int .i64 0, .int .i64 0, .int .i64 0, .int .i64 0, .int .i64 0, .int .i64 0, .int .i64 0, .int .i64 0, .int .i64 0, .int .i64 0] 33) = Wz at hbz hxz hth ⊢
 obtain ⟨b5, hbe⟩ : ∃ b, W4.heap.size = b := ⟨_, rfl⟩
 rw [hbe] at hbz hth ⊢
 have hbb5 : w.heap.size ≤ b5 := by have := (HX2.out.trans E24).size; omega
 have hrs := World.rangeAt_setCells_same Wz b5 0 (encC cw) hth
 obtain ⟨cs, hcs1, hcs2⟩ := setCells_block b5 33 (0, 0) (encC cw) 0 Wz _ hbz
 have hk5 := keeps_setCells b5 (encC cw) 0 Wz
 show Code.wp _ _ _ _ (Wz.setCells b5 0 (encC cw))
 generalize Wz.setCells b5 0 (encC cw) = W5 at hrs hk5 hcs1 ⊢
 have HB5 := hide (show BoxC W5 b5 cw from BoxC.of_range hcs1 (by rw [hcs2]; rfl) hrs)
 have HX5 := hide (Keeps.ext ((HX2.out.trans E24).trans hxz) hk5 (fun g hg => by omega))
 have HO5 := hide (((hoe.out).ext hxz).keepT hk5 (OfT.one hbz) (by decide) (by decide) (by decide) (by decide) (by decide) (by decide) (by decide))
 have hGb5 : W4.heap.size ≤ b5 := by omega
 have hEb5 : Ext W4 W5 := ((Keeps.of_ext hxz).trans hk5 : Keeps (fun g => g = b5) W4 W5).below (Nat.le_refl _) (fun g hg => by omega)
 clear hrs hk5 hcs1 hcs2 hbz hxz hth
 have hE25 := E24.trans hEb5
 have HO25 := hide (HO2.out.ext hE25)
 have HB25 := hide (HB2.out.ext hE25)
 have HP5 := hide (HP2.out.ext hE25)
 have HE25 := hide hE25.size
 have hlo : ∀ {e : TypeId} {size n : Nat} {v : Value} {xs : List Value}, W2.ownsRow W0.heap.size e size v n xs → ∀ g, v.ownBlock = some g → g < W2.heap.size := fun h g hg => (h.lt g hg).2
 have HLO := hide (show (∀ g, c.sv.ownBlock = some g → g < W2.heap.size) ∧ (∀ g, c.ev.ownBlock = some g → g < W2.heap.size) from ⟨hlo HO2.out.s, hlo HO2.out.e⟩)
 have g0 := good_conf HCC.out
 have G := hide g0
 clear hE25 hlo hEb5 HB2 HO2 HX2 E24 ho hoe HP2 g0
 go_upto_region 6 with (fail)
 refine wp_region_lit ?_
 refine wpList_plain rfl fun K hK => ?_
 go_simp
 refine hK _ _ ?_
 refine wpList_load_mid rfl 33 (.tmp 4) rfl b4 0 rfl (encC c) cd (HB25.out.range) hcd1 hcd2 Tryz.confSize ?_
 simp only [Act.put]
 go_wp2_with fail
 refine (publish_any HP5.out W0.heap.size c HO25.out (Nat.le_trans H02.out HE25.out) G.out.1 (Nat.le_trans G.out.2.2 (by decide)) G.out.2.1 (HM.out.ext HX5.out) (by decide) HX5.out.size).mono ?_
 rintro e W6 ⟨rfl, bb, vv', w1, B2, hB2, h1, hsa, hpl, hkp, -⟩
 rw [show ((([] : List MadeD).length : Nat) : Int) + 1 = 1 from rfl] at *
 have hp1 := HP5.out.ext h1
 have hkk := (KP.of_ext (B := w.heap.size) h1).trans (hp1.kp (hkp.mono fun q hq => hq.elim .inl (fun h => .inr (.inr h))))
 have HSA := hide (hsa.keepB hkp (fun q hq => by
  rcases hq with rfl | hq
  ·have := HP5.out.lt
   omega
  ·cases hq))
 have HB2 := hide hB2
 have HPL := hide hpl
 have HBC := hide (hkk.boxC HB25.out)
 have HO6 := hide (hkk.conf HO25.out)
 have HBW5 := hide (hkk.boxC HB5.out)
 have HOW5 := hide (hkk.conf HO5.out)
 have HX6 := hide (hkk.ext HX5.out (Nat.le_refl _))
 have HE56 := hide hkk.size
 clear h1 hsa hpl hkp hp1 hkk hB2 HP5 HB25 HO25 HB5 HO5 HX5
 have hs0 := gen_svcs HCC.out
 have hso := HO6.out.s
 obtain ⟨gs, capS, hsv, hcapS⟩ := owns_form hso hs0
 have hgs : gs < W2.heap.size := HLO.out.1 gs (by rw [hsv]; rfl)
 rw [hsv] at hso
 have HSO := hide hso
 have HGS := hide (MutX.of (P := (fun t => t = 44 ∨ t = 46)) hso hgs (.inl rfl))
 have HSV := hide hsv
 have HN10 := hide (chkC_ends G.out.2.1).1
 have HSB := hide (show ∀ wr, MutW W0.heap.size W2.heap.size (fun t => t = 44 ∨ t = 46) W6 wr → wr.cell? ⟨b4, 0, none⟩ = some (.slice (some ⟨gs, 0, none⟩) c.S.length capS) from fun wr h => by
  rw [← HSV.out]
  exact (h.box HBC.out (by decide)).cell 0 _ rfl)
 clear hs0 hso hgs hsv
 go_wp2_with fail
 go_loopw [8] (fun v8 wr => ∃ i : Nat, i ≤ c.S.length ∧ v8 = .int .i64 i ∧ Hid (MutW W0.heap.size W2.heap.size (fun t => t = 44 ∨ t = 46) W6 wr)) (fun i _ => c.S.length - (intOf i).toNat)
 case atStart => exact ⟨0, Nat.zero_le _, rfl, MutW.refl _ _ _ _⟩
 case round =>
  obtain ⟨i, hi, rfl, hmw⟩ := hrel
  generalize wr = wo at *
  have HMU := hide hmw.out
  clear hmw
  have q0 := HSB.out _ HMU.out
  by_cases hil : i < c.S.length
  ·have hiz : (i : Int) < c.S.length := by omega
   have hiz0 : (0 : Int) ≤ i := by omega
   have hn10 := HN10.out
   have hwi : IntKind.i64.wrap ((i : Int) + 1) = ((i + 1 : Nat) : Int) := by rw [IntKind.wrap_i64]; omega
   have hso := HSO.out
   obtain ⟨⟨u, qk⟩, zk⟩ := HMU.out.any hso (i * 7 + 2) (by omega)
   have HMX := hide (HMU.out.set HGS.out (i * 7 + 2) (.int .i64 99))
   clear hso HMU hn10
   go_wp2
   go_roundw
   case rel => exact ⟨i + 1, by omega, by first | rfl | simp, HMX.out⟩
   case measure => simp [intOf] <;> omega
  ·obtain rfl : i = c.S.length := by omega
   have heo := HO6.out.e
   obtain ⟨ae, ce', hev⟩ := owns_shape heo
   rw [hev] at heo
   have HEO := hide heo
   have HE63 := hide (owns_len heo)
   have HEL := hide (show ∀ g, (Value.slice ae c.E.length ce').ownBlock = some g → g < W2.heap.size from by rw [← hev]; exact HLO.out.2)
   have HEB := hide (show ∀ wr, MutW W0.heap.size W2.heap.size (fun t => t = 44 ∨ t = 46) W6 wr → wr.cell? ⟨b4, 1, none⟩ = some (.slice ae c.E.length ce') from fun wr h => by
    rw [← hev]
    exact (h.box HBC.out (by decide)).cell 1 _ rfl)
   clear heo hev
   go_wp2_with fail
   clear q0
   go_loopw [9] (fun v9 wr => ∃ i : Nat, i ≤ c.E.length ∧ v9 = .int .i64 i ∧ Hid (MutW W0.heap.size W2.heap.size (fun t => t = 44 ∨ t = 46) W6 wr)) (fun i _ => c.E.length - (intOf i).toNat)
   case atStart => exact ⟨0, Nat.zero_le _, rfl, HMU.out⟩
   case round =>
    clear HMU
    obtain ⟨i, hi2, rfl, hmw⟩ := hrel
    generalize wr = wp at *
    have HMU := hide hmw.out
    clear hmw
    have q0 := HEB.out _ HMU.out
    by_cases hil2 : i < c.E.length
    ·have hiz : (i : Int) < c.E.length := by omega
     have hiz0 : (0 : Int) ≤ i := by omega
     have h63 := HE63.out
     have hwi : IntKind.i64.wrap ((i : Int) + 1) = ((i + 1 : Nat) : Int) := by rw [IntKind.wrap_i64]; omega
     have hok := HEO.out
     obtain ⟨ge, ck', hgk, -⟩ := owns_form hok (by omega)
     simp only [Value.slice.injEq] at hgk
     obtain ⟨hak, -, rfl⟩ := hgk
     have hlk := HEL.out
     rw [hak] at hok q0 hlk
     have hX := MutX.of (P := (fun t => t = 44 ∨ t = 46)) hok (hlk ge rfl) (.inr rfl)
     obtain ⟨⟨u, qk⟩, zk⟩ := HMU.out.any hok (i * 3 + 2) (by omega)
     have HMX := hide (HMU.out.set hX (i * 3 + 2) (.int .i64 4))
     clear h63 hok hlk hX HMU hak
     go_wp2
     go_roundw
     case rel => exact ⟨i + 1, by omega, by first | rfl | simp, HMX.out⟩
     case measure => simp [intOf] <;> omega
    ·obtain rfl : i = c.E.length := by omega
     have hkq : ∀ g, MutX W0.heap.size W2.heap.size (fun t => t = 44 ∨ t = 46) W6 g → w.heap.size ≤ g := fun g h => Nat.le_trans HE0.out.size h.1
     have HX6' := hide (Keeps.ext HX6.out HMU.out.k hkq)
     have HSN := hide (HSA.out.keepB HMU.out.k (fun q h => Nat.lt_of_lt_of_le h.2.1 (Nat.le_trans HE25.out HB2.out)))
     have hplN : PlaneIs w.heap.size wp p bm vv' 0 (pubP ⟨1, [], fun _ => 0⟩ bb) := HPL.out.keeps HMU.out.k (notX HPL.out.box (by decide)) (fun hx => by
      obtain ⟨n, -, hs⟩ := HPL.out.sm
      obtain ⟨es, cc, hb⟩ := hs.block
      obtain ⟨-, -, cs, t, f, h2, -⟩ := hx
      rw [hb] at h2
      cases h2) (fun g hg => by
      obtain ⟨cs, fz, hc⟩ := ownsRow_kind HPL.out.row g hg
      exact notX hc (by decide)) (fun q hx cs f e => notX e (by decide) hx)
     have HPN := hide hplN
     have hcw6 := HMU.out.conf HOW5.out (Nat.le_refl _)
     have hbw6 := HMU.out.box HBW5.out (by decide)
     have HBW := hide (show ∀ X, Ext wp X → BoxC X b5 cw from fun X hX => hbw6.ext hX)
     have HOW := hide (show ∀ X, Ext wp X → ConfOwn W2.heap.size X cw from fun X hX => hcw6.ext hX)
     have hmm6 := HM.out.ext HX6'.out
     have HMM := hide (show ∀ X, Ext wp X → MaxV X from fun X hX => hmm6.ext hX)
     have HX7 := hide HX6'.out
     clear hkq hbw6 hcw6 hmm6 hplN HX6 HX6' HPL
     have HX6 := hide HX7.out
     clear HX7
     generalize wp = W7 at *
     obtain ⟨d, bt, bs, br, nb, Rs, g, sa, hca⟩ := HSN.out
     have hcore : d.core = cw.core := hca.trans (HCC.out.trans HCW.out.symm)
     have HSC := hide (core_S hcore)
     have HEC := hide (core_E hcore)
     have IA := hide sa
     have g1 := good_conf HCW.out
     have HNS := hide (svcs_nodup (chkC_ends g1.2.1).2.2.2.1)
     have HFT := hide g1.1
     have HCK := hide g1.2.1
     have HL40 := hide (show cw.E.length ≤ 40 from Nat.le_trans g1.2.2 (by decide))
     have HND := hide (show (d.E.map EndD.id).Nodup from sa.nodup)
     have HNW := hide (chkC_ends g1.2.1).1
     have HBV := hide (show ∀ X, Ext W7 X → X.cell? ⟨bb, 0, none⟩ = some (.int .i64 1) from fun X hX => (sa.box.ext hX).cell 0 _ rfl)
     have hso := (HOW.out W7 (Below.refl _ _)).s
     obtain ⟨aW, cW, hvW⟩ := owns_shape hso
     have HQ1 := hide (show ∀ X, Ext W7 X → X.cell? ⟨b5, 0, none⟩ = some (.slice aW cw.S.length cW) from fun X hX => by
      rw [← hvW]
      exact (HBW.out X hX).cell 0 _ rfl)
     rw [hvW] at hso
     have HSL := hide (Sl.of_own' (enc := encV) encV_len hso)
     clear hcore sa hca g1 hso hvW HSN HMU HSA HBC HO6 HLO HSO HGS HSV HSB HEO HE63 HEL HEB HN10 HOW5 HBW5 G
     go_wp2_with fail
     clear q0
     refine (snapP_any HPN.out 1).mono ?_
     rintro e w9 ⟨rfl, rfl⟩
     rw [show plSnap (pubP ⟨1, [], fun _ => 0⟩ bb) 1 = some bb from rfl]
     simp only [ptrO, Option.map_some, Option.isSome_some]
     go_wp2_with fail
     refine (nextP_any HPN.out 0 (by constructor <;> decide)).mono ?_
     rintro e W8 ⟨rfl, E8⟩
     rw [show nextS (pubP ⟨1, [], fun _ => 0⟩ bb) 0 = some bb from rfl]
     simp only [ptrO, Option.map_some, Option.isSome_some]
     have HX8 := hide E8
     have hsame := snap_same ⟨bb, 0, none⟩
     clear E8 HPN
     go_wp2_with fail
     clear hsame
     go_loopw [14] (fun v14 wr => ∃ i : Nat, i ≤ cw.S.length ∧ v14 = .int .i64 i ∧ Hid (Ext W7 wr)) (fun i _ => cw.S.length - (intOf i).toNat)
     case atStart => exact ⟨0, Nat.zero_le _, rfl, HX8.out⟩
     case round =>
      clear HX8
      obtain ⟨i, hi5, rfl, hx⟩ := hrel
      generalize wr = wv at *
      have HX := hide hx.out
      clear hx
      by_cases hil5 : i < cw.S.length
      ·have hiz : (i : Int) < cw.S.length := by omega
       have hiz0 : (0 : Int) ≤ i := by omega
       have hnw := HNW.out
       have HWI := hide (show IntKind.i64.wrap ((i : Int) + 1) = ((i + 1 : Nat) : Int) by rw [IntKind.wrap_i64]; omega)
       have HIZ := hide (show (0 : Int) ≤ i ∧ (i : Int) < cw.S.length from ⟨hiz0, hiz⟩)
       obtain ⟨bW, offW, rfl, hbW, hrS⟩ := svcs_at HSL.out i hil5
       have hok := (HOW.out W7 (Below.refl _ _)).k _ (List.getElem_mem hil5)
       obtain ⟨wa, wc, hvw⟩ := owns_shape hok
       have hsel := svcAt_self HNS.out i hil5
       have hft := (HFT.out.1 _ (List.getElem_mem hil5)).1
       have htb : thereB cw.S cw.S[i].id = true := by
        unfold thereB
        exact List.any_eq_true.2 ⟨_, List.getElem_mem hil5, by simp⟩
       obtain ⟨s, hse⟩ : ∃ s, cw.S[i] = s := ⟨_, rfl⟩
       rw [hse] at hrS hvw hsel hft hok htb
       obtain ⟨wid, wkv, wK, wwk, wsl, wqu, wba, wwm⟩ := s
       simp only [] at hvw hsel hft hok htb
       subst hvw
       have hrs2 : ∀ X, Ext W7 X → X.rangeAt bW (offW + i * 7) (encV (⟨wid, .slice wa wK.length wc, wK, wwk, wsl, wqu, wba, wwm⟩ : SvcD)) := fun X hX j v hv => (hX.cell (p := ⟨bW, offW + i * 7 + j, none⟩) (World.block_lt_of_cell? W7 _ (hrS j v hv))).trans (hrS j v hv)
       have HRS := hide hrs2
       have HQI := hide (show ∀ X, Ext W7 X → X.cell? ⟨bW, offW + i * 7, none⟩ = some (.int .i64 wid) from fun X hX => hrs2 X hX 0 _ rfl)
       have HKW := hide (show ∀ X, Ext W7 X → Strs X (.slice wa wK.length wc) wK from fun X hX => (Sl.of_own' (enc := encS) (fun _ => rfl) hok).ext hX)
       have HI := hide hft
       have hsc := core_svcAt HSC.out wid
       rw [hsel] at hsc
       have htd := core_there HSC.out wid
       rw [htb] at htd
       have HTD := hide htd
       obtain ⟨sv, hsv⟩ : ∃ sv, svcAt d.S wid = sv := ⟨_, rfl⟩
       rw [hsv] at hsc
       have HSVE := hide hsv
       have HCO0 := hide hsc
       obtain ⟨T, hT⟩ : ∃ T, endsAt d.E wid = T := ⟨_, rfl⟩
       have HT1 := hide hT
       have HT2 := hide (show byId 40 (fun e => e.svc == wid) cw.E = T from by
        rw [← hT, HEC.out]
        exact byId_svc HCK.out wid)
       have q0 := HQ1.out _ HX.out
       have q2 := HQI.out _ HX.out
       clear hrS hok hsel hft hse hrs2 hsc hsv hT hnw htb htd
       go_wp2_with fail
       refine (mservice_any wid wv (IA.out.ext HX.out) HI.out).mono ?_
       rintro e w10 ⟨kv, rfl, hkv, E10⟩
       rw [HSVE.out, HTD.out]
       rw [HSVE.out] at hkv
       obtain ⟨ak, ck, rfl⟩ := owns_shape hkv
       obtain ⟨sid, skv, sK, swork, sslots, squeue, sbal, swarm⟩ := sv
       simp only [] at hkv
       simp only [SvcD.val]
       have hx11 : Ext w10 (w10.alloc (.cells #[.int .i64 sid, .slice ak sK.length ck, .int .i64 swork, .int .i64 sslots, .int .i64 squeue, .int .i64 sbal, .int .i64 swarm] 44)) := (Below.refl _ _).alloc (Nat.le_refl _) _
       have hbv := heap_alloc_new w10 (.cells #[.int .i64 sid, .slice ak sK.length ck, .int .i64 swork, .int .i64 sslots, .int .i64 squeue, .int .i64 sbal, .int .i64 swarm] 44)
       clear q0 q2
       go_upto_region 23 with (fail)
       generalize w10.alloc (.cells #[.int .i64 sid, .slice ak sK.length ck, .int .i64 swork, .int .i64 sslots, .int .i64 squeue, .int .i64 sbal, .int .i64 swarm] 44) = W11 at hx11 hbv ⊢
       obtain ⟨b15, hb15⟩ : ∃ b, w10.heap.size = b := ⟨_, rfl⟩
       rw [hb15] at hbv ⊢
       have HV15 := hide (show BoxV W11 b15 ⟨sid, .slice ak sK.length ck, sK, swork, sslots, squeue, sbal, swarm⟩ from hbv)
       have HKR := hide (owns_ext hkv hx11)
       have HK15 := hide ((Sl.of_own' (enc := encS) (fun _ => rfl) hkv).ext hx11)
       have HCO := hide (show (⟨sid, .slice ak sK.length ck, sK, swork, sslots, squeue, sbal, swarm⟩ : SvcD).core = (⟨wid, .slice wa wK.length wc, wK, wwk, wsl, wqu, wba, wwm⟩ : SvcD).core from HCO0.out)
       have H11 := hide (HX.out.trans (E10.trans hx11))
       clear hbv hx11 hb15 hkv E10 HX
       refine wp_region_rw 147 [] [17, 104, 105, 106, 107, 108, 109, 110] (fun _ w' => Ext W11 w') (fun (t : Nat) (wI : World) (v : Value) => match t with | 17 => v = (.bool true) | 104 => v = (.agg #[.int .i64 sid, .slice ak sK.length ck, .int .i64 swork, .int .i64 sslots, .int .i64 squeue, .int .i64 sbal, .int .i64 swarm]) | 105 => v = (.pointer (some ⟨b5, 0, none⟩)) | 106 => v = (.slice (some ⟨bW, offW, none⟩) cw.S.length cW) | 107 => v = (.int .i64 (i : Int)) | 108 => v = (.pointer (some ⟨bW, offW + i * 7, none⟩)) | 109 => v = (.agg #[.int .i64 wid, .slice wa wK.length wc, .int .i64 wwk, .int .i64 wsl, .int .i64 wqu, .int .i64 wba, .int .i64 wwm]) | 110 => v = (.bool true) | _ => True) (fun w' w'' => Ext w' w'') (by kernel_rfl) rfl (by kernel_rfl) (by kernel_rfl) (by kernel_rfl) (by kernel_rfl) ?_ ?_ ?_ ?_ ?_ ?_ ?_
       ·intro w' w'' h
        exact h
       ·intro t w' w'' v hR hv
        exact hv
       ·intro vs w' w'' h e
        exact Ext.trans (show Ext _ w' from h) e
       ·exact (Below.refl _ _).drew
       ·intro i o ho hmi vs X w' hpk hph hX hI hF K hK
        have hin : i < 8 := (Array.getElem?_eq_some_iff.1 ho).1
        have hi : i = 0 ∨ i = 1 ∨ i = 2 ∨ i = 3 ∨ i = 4 ∨ i = 5 ∨ i = 6 ∨ i = 7 := by omega
        rcases hi with rfl | rfl | rfl | rfl | rfl | rfl | rfl | rfl
        ·obtain rfl := Option.some.inj ho
         have e15 : X 15 = (.pointer (some ⟨b15, 0, none⟩)) := hF 15 (by omega) (by kernel_rfl)
         have hx : Ext W11 w' := hph
         unfold wpOp
         simp only [ho]
         rw [if_pos (by rfl)]
         left
         rw [frame147]
         refine wp_load_mid 44 (.tmp 15) rfl b15 0 e15 (encV (⟨sid, .slice ak sK.length ck, sK, swork, sslots, squeue, sbal, swarm⟩ : SvcD)) dv ((HV15.out.ext hx).range) hdv1 hdv2 Tryz.svcSize (metK (hK.out (.agg #[.int .i64 sid, .slice ak sK.length ck, .int .i64 swork, .int .i64 sslots, .int .i64 squeue, .int .i64 sbal, .int .i64 swarm]) _ (Below.refl _ _) (fun d hd => by cases hd; exact rfl)) ?_)
         rfl
        ·obtain rfl := Option.some.inj ho
         have e5 : X 5 = (.pointer (some ⟨b5, 0, none⟩)) := hF 5 (by omega) (by kernel_rfl)
         unfold wpOp
         simp only [ho]
         rw [if_pos (by rfl)]
         left
         rw [frame147]
         go_simp
         refine metK (hK.out ((.pointer (some ⟨b5, 0, none⟩))) _ (Below.refl _ _) (fun d hd => by cases hd; exact rfl)) ?_
         simp [frame147, Act.put, *]
        ·obtain rfl := Option.some.inj ho
         have e105 : X 105 = (.pointer (some ⟨b5, 0, none⟩)) := hI 105 (by kernel_rfl) (by kernel_rfl)
         have hx : Ext W11 w' := hph
         have q8 := HQ1.out w' (H11.out.trans hx)
         unfold wpOp
         simp only [ho]
         rw [if_pos (by rfl)]
         left
         rw [frame147]
         go_simp
         refine metK (hK.out ((.slice (some ⟨bW, offW, none⟩) cw.S.length cW)) _ (Below.refl _ _) (fun d hd => by cases hd; exact rfl)) ?_
         simp [frame147, Act.put, *]
        ·obtain rfl := Option.some.inj ho
         have e14 : X 14 = (.int .i64 (i : Int)) := hF 14 (by omega) (by kernel_rfl)
         unfold wpOp
         simp only [ho]
         rw [if_pos (by rfl)]
         left
         rw [frame147]
         go_simp
         refine metK (hK.out ((.int .i64 (i : Int))) _ (Below.refl _ _) (fun d hd => by cases hd; exact rfl)) ?_
         simp [frame147, Act.put, *]
        ·obtain rfl := Option.some.inj ho
         have e106 : X 106 = (.slice (some ⟨bW, offW, none⟩) cw.S.length cW) := hI 106 (by kernel_rfl) (by kernel_rfl)
         have e107 : X 107 = (.int .i64 (i : Int)) := hI 107 (by kernel_rfl) (by kernel_rfl)
         have hz0 := HIZ.out.1
         have hz1 := HIZ.out.2
         unfold wpOp
         simp only [ho]
         rw [if_pos (by rfl)]
         left
         rw [frame147]
         go_simp
         refine metK (hK.out ((.pointer (some ⟨bW, offW + i * 7, none⟩))) _ (Below.refl _ _) (fun d hd => by cases hd; exact rfl)) ?_
         simp [frame147, Act.put, *]
        ·obtain rfl := Option.some.inj ho
         have e108 : X 108 = (.pointer (some ⟨bW, offW + i * 7, none⟩)) := hI 108 (by kernel_rfl) (by kernel_rfl)
         have hx : Ext W11 w' := hph
         unfold wpOp
         simp only [ho]
         rw [if_pos (by rfl)]
         left
         rw [frame147]
         refine wp_load_mid 44 (.tmp 108) rfl bW (offW + i * 7) e108 (encV (⟨wid, .slice wa wK.length wc, wK, wwk, wsl, wqu, wba, wwm⟩ : SvcD)) dv (HRS.out w' (H11.out.trans hx)) hdv1 hdv2 Tryz.svcSize (metK (hK.out (.agg #[.int .i64 wid, .slice wa wK.length wc, .int .i64 wwk, .int .i64 wsl, .int .i64 wqu, .int .i64 wba, .int .i64 wwm]) _ (Below.refl _ _) (fun d hd => by cases hd; exact rfl)) ?_)
         rfl
        ·obtain rfl := Option.some.inj ho
         have e104 : X 104 = (.agg #[.int .i64 sid, .slice ak sK.length ck, .int .i64 swork, .int .i64 sslots, .int .i64 squeue, .int .i64 sbal, .int .i64 swarm]) := hI 104 (by kernel_rfl) (by kernel_rfl)
         have e109 : X 109 = (.agg #[.int .i64 wid, .slice wa wK.length wc, .int .i64 wwk, .int .i64 wsl, .int .i64 wqu, .int .i64 wba, .int .i64 wwm]) := hI 109 (by kernel_rfl) (by kernel_rfl)
         have hx : Ext W11 w' := hph
         unfold wpOp
         simp only [ho]
         rw [if_pos (by rfl)]
         left
         rw [frame147]
         go_simp
         refine (sameS_true (⟨sid, .slice ak sK.length ck, sK, swork, sslots, squeue, sbal, swarm⟩ : SvcD) (⟨wid, .slice wa wK.length wc, wK, wwk, wsl, wqu, wba, wwm⟩ : SvcD) w' (HK15.out.ext hx) ((HKW.out _ (H11.out.trans hx))) HCO.out).mono ?_
         rintro e w9 ⟨rfl, E9⟩
         refine metK (hK.out (.bool true) w9 E9 (fun d hd => by cases hd; rfl)) ?_
         simp [frame147, Act.put, *]
        ·obtain rfl := Option.some.inj ho
         have e110 : X 110 = (.bool true) := hI 110 (by kernel_rfl) (by kernel_rfl)
         unfold wpOp
         simp only [ho]
         rw [if_pos (by rfl)]
         left
         rw [frame147]
         go_simp
         refine metK (hK.out ((.bool true)) _ (Below.refl _ _) (fun d hd => by cases hd; exact rfl)) ?_
         simp [frame147, Act.put, *]
       ·intro i o ho hmi vs X w' hqi hql hph hX hI hF K hK
        rcases vs with _
        ·simp at hql <;> omega
       ·intro vs X w' hlen hph hX hI
        have e17 : X 17 = (.bool true) := hI 17 (by omega) (by kernel_rfl) (by kernel_rfl)
        have e104 : X 104 = (.agg #[.int .i64 sid, .slice ak sK.length ck, .int .i64 swork, .int .i64 sslots, .int .i64 squeue, .int .i64 sbal, .int .i64 swarm]) := hI 104 (by omega) (by kernel_rfl) (by kernel_rfl)
        have e105 : X 105 = (.pointer (some ⟨b5, 0, none⟩)) := hI 105 (by omega) (by kernel_rfl) (by kernel_rfl)
        have e106 : X 106 = (.slice (some ⟨bW, offW, none⟩) cw.S.length cW) := hI 106 (by omega) (by kernel_rfl) (by kernel_rfl)
        have e107 : X 107 = (.int .i64 (i : Int)) := hI 107 (by omega) (by kernel_rfl) (by kernel_rfl)
        have e108 : X 108 = (.pointer (some ⟨bW, offW + i * 7, none⟩)) := hI 108 (by omega) (by kernel_rfl) (by kernel_rfl)
        have e109 : X 109 = (.agg #[.int .i64 wid, .slice wa wK.length wc, .int .i64 wwk, .int .i64 wsl, .int .i64 wqu, .int .i64 wba, .int .i64 wwm]) := hI 109 (by omega) (by kernel_rfl) (by kernel_rfl)
        have e110 : X 110 = (.bool true) := hI 110 (by omega) (by kernel_rfl) (by kernel_rfl)
        rcases vs with _ | ⟨vz, vs⟩
        rotate_left
        ·simp at hlen
        clear hX hI hlen
        simp only [overF, List.foldl_cons, List.foldl_nil, List.setIfInBounds_toArray, List.set_cons_succ, List.set_cons_zero, e17, e104, e105, e106, e107, e108, e109, e110]
        have hx9 : Ext W11 w' := hph
        clear hph e17 e104 e105 e106 e107 e108 e109 e110
        generalize w' = W12 at *
        have HA12 := hide (H11.out.trans hx9)
        have HBS := hide (Nat.le_trans HX6.out.size HA12.out.size)
        clear hx9 HV15 HKR HK15 HCO H11
        go_upto_region 24 with (fail)
        refine wp_region_rw 147 [] [18, 111, 112, 113, 114, 115, 116, 117, 118, 119, 120, 121, 122, 123, 124, 125, 126, 127] (fun _ w' => Ext W12 w') (fun (t : Nat) (wI : World) (v : Value) => match t with | 18 => v = (.bool true) | 111 => v = (.pointer (some ⟨bb, 0, none⟩)) | 112 => v = (.pointer (some ⟨b5, 0, none⟩)) | 113 => v = (.slice (some ⟨bW, offW, none⟩) cw.S.length cW) | 114 => v = (.int .i64 (i : Int)) | 115 => v = (.pointer (some ⟨bW, offW + i * 7, none⟩)) | 116 => v = (.pointer (some ⟨bW, offW + i * 7, none⟩)) | 117 => v = (.int .i64 wid) | 118 => wI.ownsRow w.heap.size 46 3 v T.length (T.flatMap encE) | 119 => v = (.agg #[cw.sv, cw.ev, cw.rv, cw.tv, .int .i64 cw.w0, .int .i64 cw.w1, .int .i64 cw.w2, .int .i64 cw.w3, .int .i64 cw.w4, .int .i64 cw.w5, .int .i64 cw.w6, .int .i64 cw.panic, .int .i64 cw.low, .int .i64 cw.high, .int .i64 cw.wait, .int .i64 cw.hop, .int .i64 cw.life, .int .i64 cw.purse, .int .i64 cw.horizon, .int .i64 cw.sample]) | 120 => v = (.pointer (some ⟨b5, 0, none⟩)) | 121 => v = (.slice (some ⟨bW, offW, none⟩) cw.S.length cW) | 122 => v = (.int .i64 (i : Int)) | 123 => v = (.pointer (some ⟨bW, offW + i * 7, none⟩)) | 124 => v = (.pointer (some ⟨bW, offW + i * 7, none⟩)) | 125 => v = (.int .i64 wid) | 126 => wI.ownsRow w.heap.size 46 3 v T.length (T.flatMap encE) | 127 => v = (.bool true) | _ => True) (fun w' w'' => Ext w' w'') (by kernel_rfl) rfl (by kernel_rfl) (by kernel_rfl) (by kernel_rfl) (by kernel_rfl) ?_ ?_ ?_ ?_ ?_ ?_ ?_
        ·intro w' w'' h
         exact h
        ·intro t w' w'' v hR hv
         split at hv <;> first | exact hv | (exact owns_ext hv hR) | (subst hv; rfl)
        ·intro vs w' w'' h e
         exact Ext.trans (show Ext _ w' from h) e
        ·exact (Below.refl _ _).drew
        ·intro i o ho hmi vs X w' hpk hph hX hI hF K hK
         have hin : i < 18 := (Array.getElem?_eq_some_iff.1 ho).1
         have hi : i = 0 ∨ i = 1 ∨ i = 2 ∨ i = 3 ∨ i = 4 ∨ i = 5 ∨ i = 6 ∨ i = 7 ∨ i = 8 ∨ i = 9 ∨ i = 10 ∨ i = 11 ∨ i = 12 ∨ i = 13 ∨ i = 14 ∨ i = 15 ∨ i = 16 ∨ i = 17 := by omega
         rcases hi with rfl | rfl | rfl | rfl | rfl | rfl | rfl | rfl | rfl | rfl | rfl | rfl | rfl | rfl | rfl | rfl | rfl | rfl
         ·obtain rfl := Option.some.inj ho
          have e10 : X 10 = (.pointer (some ⟨bb, 0, none⟩)) := hF 10 (by omega) (by kernel_rfl)
          unfold wpOp
          simp only [ho]
          rw [if_pos (by rfl)]
          left
          rw [frame147]
          go_simp
          refine metK (hK.out ((.pointer (some ⟨bb, 0, none⟩))) _ (Below.refl _ _) (fun d hd => by cases hd; exact rfl)) ?_
          simp [frame147, Act.put, *]
         ·obtain rfl := Option.some.inj ho
          have e5 : X 5 = (.pointer (some ⟨b5, 0, none⟩)) := hF 5 (by omega) (by kernel_rfl)
          unfold wpOp
          simp only [ho]
          rw [if_pos (by rfl)]
          left
          rw [frame147]
          go_simp
          refine metK (hK.out ((.pointer (some ⟨b5, 0, none⟩))) _ (Below.refl _ _) (fun d hd => by cases hd; exact rfl)) ?_
          simp [frame147, Act.put, *]
         ·obtain rfl := Option.some.inj ho
          have e112 : X 112 = (.pointer (some ⟨b5, 0, none⟩)) := hI 112 (by kernel_rfl) (by kernel_rfl)
          have hx : Ext W12 w' := hph
          have q8 := HQ1.out w' (HA12.out.trans hx)
          unfold wpOp
          simp only [ho]
          rw [if_pos (by rfl)]
          left
          rw [frame147]
          go_simp
          refine metK (hK.out ((.slice (some ⟨bW, offW, none⟩) cw.S.length cW)) _ (Below.refl _ _) (fun d hd => by cases hd; exact rfl)) ?_
          simp [frame147, Act.put, *]
         ·obtain rfl := Option.some.inj ho
          have e14 : X 14 = (.int .i64 (i : Int)) := hF 14 (by omega) (by kernel_rfl)
          unfold wpOp
          simp only [ho]
          rw [if_pos (by rfl)]
          left
          rw [frame147]
          go_simp
          refine metK (hK.out ((.int .i64 (i : Int))) _ (Below.refl _ _) (fun d hd => by cases hd; exact rfl)) ?_
          simp [frame147, Act.put, *]
         ·obtain rfl := Option.some.inj ho
          have e113 : X 113 = (.slice (some ⟨bW, offW, none⟩) cw.S.length cW) := hI 113 (by kernel_rfl) (by kernel_rfl)
          have e114 : X 114 = (.int .i64 (i : Int)) := hI 114 (by kernel_rfl) (by kernel_rfl)
          have hz0 := HIZ.out.1
          have hz1 := HIZ.out.2
          unfold wpOp
          simp only [ho]
          rw [if_pos (by rfl)]
          left
          rw [frame147]
          go_simp
          refine metK (hK.out ((.pointer (some ⟨bW, offW + i * 7, none⟩))) _ (Below.refl _ _) (fun d hd => by cases hd; exact rfl)) ?_
          simp [frame147, Act.put, *]
         ·obtain rfl := Option.some.inj ho
          have e115 : X 115 = (.pointer (some ⟨bW, offW + i * 7, none⟩)) := hI 115 (by kernel_rfl) (by kernel_rfl)
          unfold wpOp
          simp only [ho]
          rw [if_pos (by rfl)]
          left
          rw [frame147]
          go_simp
          refine metK (hK.out ((.pointer (some ⟨bW, offW + i * 7, none⟩))) _ (Below.refl _ _) (fun d hd => by cases hd; exact rfl)) ?_
          simp [frame147, Act.put, *]
         ·obtain rfl := Option.some.inj ho
          have e116 : X 116 = (.pointer (some ⟨bW, offW + i * 7, none⟩)) := hI 116 (by kernel_rfl) (by kernel_rfl)
          have hx : Ext W12 w' := hph
          have q8 := HQI.out w' (HA12.out.trans hx)
          unfold wpOp
          simp only [ho]
          rw [if_pos (by rfl)]
          left
          rw [frame147]
          go_simp
          refine metK (hK.out ((.int .i64 wid)) _ (Below.refl _ _) (fun d hd => by cases hd; exact rfl)) ?_
          simp [frame147, Act.put, *]
         ·obtain rfl := Option.some.inj ho
          have e111 : X 111 = (.pointer (some ⟨bb, 0, none⟩)) := hI 111 (by kernel_rfl) (by kernel_rfl)
          have e117 : X 117 = (.int .i64 wid) := hI 117 (by kernel_rfl) (by kernel_rfl)
          have hx : Ext W12 w' := hph
          unfold wpOp
          simp only [ho]
          rw [if_pos (by rfl)]
          left
          rw [frame147]
          go_simp
          refine (mends_any wid w' (IA.out.ext (HA12.out.trans hx)).box (ends_sl (IA.out.ext (HA12.out.trans hx)).own) HND.out IA.out.few).mono ?_
          rintro e w9 ⟨v', rfl, h9, E9⟩
          rw [HT1.out] at h9
          refine metK (hK.out v' w9 E9 (fun d hd => by cases hd; exact owns_mono h9 (Nat.le_trans HBS.out hx.size))) ?_
          simp [frame147, Act.put, *]
         ·obtain rfl := Option.some.inj ho
          have e5 : X 5 = (.pointer (some ⟨b5, 0, none⟩)) := hF 5 (by omega) (by kernel_rfl)
          have hx : Ext W12 w' := hph
          unfold wpOp
          simp only [ho]
          rw [if_pos (by rfl)]
          left
          rw [frame147]
          refine wp_load_mid 33 (.tmp 5) rfl b5 0 e5 (encC cw) cd ((HBW.out _ (HA12.out.trans hx)).range) hcd1 hcd2 Tryz.confSize (metK (hK.out (.agg #[cw.sv, cw.ev, cw.rv, cw.tv, .int .i64 cw.w0, .int .i64 cw.w1, .int .i64 cw.w2, .int .i64 cw.w3, .int .i64 cw.w4, .int .i64 cw.w5, .int .i64 cw.w6, .int .i64 cw.panic, .int .i64 cw.low, .int .i64 cw.high, .int .i64 cw.wait, .int .i64 cw.hop, .int .i64 cw.life, .int .i64 cw.purse, .int .i64 cw.horizon, .int .i64 cw.sample]) _ (Below.refl _ _) (fun d hd => by cases hd; exact rfl)) ?_)
          simp [frame147, Act.put, *]
          rfl
         ·obtain rfl := Option.some.inj ho
          have e5 : X 5 = (.pointer (some ⟨b5, 0, none⟩)) := hF 5 (by omega) (by kernel_rfl)
          unfold wpOp
          simp only [ho]
          rw [if_pos (by rfl)]
          left
          rw [frame147]
          go_simp
          refine metK (hK.out ((.pointer (some ⟨b5, 0, none⟩))) _ (Below.refl _ _) (fun d hd => by cases hd; exact rfl)) ?_
          simp [frame147, Act.put, *]
         ·obtain rfl := Option.some.inj ho
          have e120 : X 120 = (.pointer (some ⟨b5, 0, none⟩)) := hI 120 (by kernel_rfl) (by kernel_rfl)
          have hx : Ext W12 w' := hph
          have q8 := HQ1.out w' (HA12.out.trans hx)
          unfold wpOp
          simp only [ho]
          rw [if_pos (by rfl)]
          left
          rw [frame147]
          go_simp
          refine metK (hK.out ((.slice (some ⟨bW, offW, none⟩) cw.S.length cW)) _ (Below.refl _ _) (fun d hd => by cases hd; exact rfl)) ?_
          simp [frame147, Act.put, *]
         ·obtain rfl := Option.some.inj ho
          have e14 : X 14 = (.int .i64 (i : Int)) := hF 14 (by omega) (by kernel_rfl)
          unfold wpOp
          simp only [ho]
          rw [if_pos (by rfl)]
          left
          rw [frame147]
          go_simp
          refine metK (hK.out ((.int .i64 (i : Int))) _ (Below.refl _ _) (fun d hd => by cases hd; exact rfl)) ?_
          simp [frame147, Act.put, *]
         ·obtain rfl := Option.some.inj ho
          have e121 : X 121 = (.slice (some ⟨bW, offW, none⟩) cw.S.length cW) := hI 121 (by kernel_rfl) (by kernel_rfl)
          have e122 : X 122 = (.int .i64 (i : Int)) := hI 122 (by kernel_rfl) (by kernel_rfl)
          have hz0 := HIZ.out.1
          have hz1 := HIZ.out.2
          unfold wpOp
          simp only [ho]
          rw [if_pos (by rfl)]
          left
          rw [frame147]
          go_simp
          refine metK (hK.out ((.pointer (some ⟨bW, offW + i * 7, none⟩))) _ (Below.refl _ _) (fun d hd => by cases hd; exact rfl)) ?_
          simp [frame147, Act.put, *]
         ·obtain rfl := Option.some.inj ho
          have e123 : X 123 = (.pointer (some ⟨bW, offW + i * 7, none⟩)) := hI 123 (by kernel_rfl) (by kernel_rfl)
          unfold wpOp
          simp only [ho]
          rw [if_pos (by rfl)]
          left
          rw [frame147]
          go_simp
          refine metK (hK.out ((.pointer (some ⟨bW, offW + i * 7, none⟩))) _ (Below.refl _ _) (fun d hd => by cases hd; exact rfl)) ?_
          simp [frame147, Act.put, *]
         ·obtain rfl := Option.some.inj ho
          have e124 : X 124 = (.pointer (some ⟨bW, offW + i * 7, none⟩)) := hI 124 (by kernel_rfl) (by kernel_rfl)
          have hx : Ext W12 w' := hph
          have q8 := HQI.out w' (HA12.out.trans hx)
          unfold wpOp
          simp only [ho]
          rw [if_pos (by rfl)]
          left
          rw [frame147]
          go_simp
          refine metK (hK.out ((.int .i64 wid)) _ (Below.refl _ _) (fun d hd => by cases hd; exact rfl)) ?_
          simp [frame147, Act.put, *]
         ·obtain rfl := Option.some.inj ho
          have e119 : X 119 = (.agg #[cw.sv, cw.ev, cw.rv, cw.tv, .int .i64 cw.w0, .int .i64 cw.w1, .int .i64 cw.w2, .int .i64 cw.w3, .int .i64 cw.w4, .int .i64 cw.w5, .int .i64 cw.w6, .int .i64 cw.panic, .int .i64 cw.low, .int .i64 cw.high, .int .i64 cw.wait, .int .i64 cw.hop, .int .i64 cw.life, .int .i64 cw.purse, .int .i64 cw.horizon, .int .i64 cw.sample]) := hI 119 (by kernel_rfl) (by kernel_rfl)
          have e125 : X 125 = (.int .i64 wid) := hI 125 (by kernel_rfl) (by kernel_rfl)
          have hx : Ext W12 w' := hph
          unfold wpOp
          simp only [ho]
          rw [if_pos (by rfl)]
          left
          rw [frame147]
          go_simp
          refine (ends16_any cw wid w' (HOW.out w' (HA12.out.trans hx)).ok.2.2.1 HL40.out).mono ?_
          rintro e w9 ⟨v', rfl, h9, E9⟩
          rw [HT2.out] at h9
          refine metK (hK.out v' w9 E9 (fun d hd => by cases hd; exact owns_mono h9 (Nat.le_trans HBS.out hx.size))) ?_
          simp [frame147, Act.put, *]
         ·obtain rfl := Option.some.inj ho
          have y118 := hI 118 (by kernel_rfl) (by kernel_rfl)
          have y126 := hI 126 (by kernel_rfl) (by kernel_rfl)
          have hx : Ext W12 w' := hph
          obtain ⟨a15, c15, hv15⟩ := owns_shape y118
          obtain ⟨a16, c16, hv16⟩ := owns_shape y126
          have e118 := hv15
          have e126 := hv16
          rw [hv15] at y118
          rw [hv16] at y126
          unfold wpOp
          simp only [ho]
          rw [if_pos (by rfl)]
          left
          rw [frame147]
          go_simp
          refine (sameE_true T _ _ w' (Sl.of_own' (enc := encE) encE_len y118) (Sl.of_own' (enc := encE) encE_len y126)).mono ?_
          rintro e w9 ⟨rfl, E9⟩
          refine metK (hK.out (.bool true) w9 E9 (fun d hd => by cases hd; rfl)) ?_
          simp [frame147, Act.put, *]
         ·obtain rfl := Option.some.inj ho
          have e127 : X 127 = (.bool true) := hI 127 (by kernel_rfl) (by kernel_rfl)
          unfold wpOp
          simp only [ho]
          rw [if_pos (by rfl)]
          left
          rw [frame147]
          go_simp
          refine metK (hK.out ((.bool true)) _ (Below.refl _ _) (fun d hd => by cases hd; exact rfl)) ?_
          simp [frame147, Act.put, *]
        ·intro i o ho hmi vs X w' hqi hql hph hX hI hF K hK
         rcases vs with _
         ·simp at hql <;> omega
        ·intro vs X w' hlen hph hX hI
         have e18 : X 18 = (.bool true) := hI 18 (by omega) (by kernel_rfl) (by kernel_rfl)
         have e111 : X 111 = (.pointer (some ⟨bb, 0, none⟩)) := hI 111 (by omega) (by kernel_rfl) (by kernel_rfl)
         have e112 : X 112 = (.pointer (some ⟨b5, 0, none⟩)) := hI 112 (by omega) (by kernel_rfl) (by kernel_rfl)
         have e113 : X 113 = (.slice (some ⟨bW, offW, none⟩) cw.S.length cW) := hI 113 (by omega) (by kernel_rfl) (by kernel_rfl)
         have e114 : X 114 = (.int .i64 (i : Int)) := hI 114 (by omega) (by kernel_rfl) (by kernel_rfl)
         have e115 : X 115 = (.pointer (some ⟨bW, offW + i * 7, none⟩)) := hI 115 (by omega) (by kernel_rfl) (by kernel_rfl)
         have e116 : X 116 = (.pointer (some ⟨bW, offW + i * 7, none⟩)) := hI 116 (by omega) (by kernel_rfl) (by kernel_rfl)
         have e117 : X 117 = (.int .i64 wid) := hI 117 (by omega) (by kernel_rfl) (by kernel_rfl)
         have y118 := hI 118 (by omega) (by kernel_rfl) (by kernel_rfl)
         have e119 : X 119 = (.agg #[cw.sv, cw.ev, cw.rv, cw.tv, .int .i64 cw.w0, .int .i64 cw.w1, .int .i64 cw.w2, .int .i64 cw.w3, .int .i64 cw.w4, .int .i64 cw.w5, .int .i64 cw.w6, .int .i64 cw.panic, .int .i64 cw.low, .int .i64 cw.high, .int .i64 cw.wait, .int .i64 cw.hop, .int .i64 cw.life, .int .i64 cw.purse, .int .i64 cw.horizon, .int .i64 cw.sample]) := hI 119 (by omega) (by kernel_rfl) (by kernel_rfl)
         have e120 : X 120 = (.pointer (some ⟨b5, 0, none⟩)) := hI 120 (by omega) (by kernel_rfl) (by kernel_rfl)
         have e121 : X 121 = (.slice (some ⟨bW, offW, none⟩) cw.S.length cW) := hI 121 (by omega) (by kernel_rfl) (by kernel_rfl)
         have e122 : X 122 = (.int .i64 (i : Int)) := hI 122 (by omega) (by kernel_rfl) (by kernel_rfl)
         have e123 : X 123 = (.pointer (some ⟨bW, offW + i * 7, none⟩)) := hI 123 (by omega) (by kernel_rfl) (by kernel_rfl)
         have e124 : X 124 = (.pointer (some ⟨bW, offW + i * 7, none⟩)) := hI 124 (by omega) (by kernel_rfl) (by kernel_rfl)
         have e125 : X 125 = (.int .i64 wid) := hI 125 (by omega) (by kernel_rfl) (by kernel_rfl)
         have y126 := hI 126 (by omega) (by kernel_rfl) (by kernel_rfl)
         have e127 : X 127 = (.bool true) := hI 127 (by omega) (by kernel_rfl) (by kernel_rfl)
         rcases vs with _ | ⟨vz, vs⟩
         rotate_left
         ·simp at hlen
         clear hX hI hlen
         simp only [overF, List.foldl_cons, List.foldl_nil, List.setIfInBounds_toArray, List.set_cons_succ, List.set_cons_zero, e18, e111, e112, e113, e114, e115, e116, e117, e119, e120, e121, e122, e123, e124, e125, e127]
         have hx9 : Ext W12 w' := hph
         clear hph e18 e111 e112 e113 e114 e115 e116 e117 e119 e120 e121 e122 e123 e124 e125 e127 y118 y126
         generalize X 118 = x118 at *
         generalize X 126 = x126 at *
         have HZ := hide (HA12.out.trans hx9)
         have hwi := HWI.out
         clear hx9 HWI
         go_wp2
         go_roundw
         case rel => exact ⟨i + 1, by omega, by first | rfl | simp, HZ.out⟩
         case measure => simp [intOf] <;> omega
      ·obtain rfl : i = cw.S.length := by omega
       have q0 := HQ1.out _ HX.out
       have q1 := HBV.out _ HX.out
       have HMY := hide (HMM.out _ HX.out)
       have HXY := hide (HX6.out.trans HX.out)
       clear HX
       go_wp2_with fail
       refine (lives17_any wv HMY.out).mono ?_
       rintro e w9 ⟨rfl, E9⟩
       have HZ := hide (HXY.out.trans E9)
       clear E9 HXY q0 q1
       go_wp2
       go_ret
       exact ⟨rfl, HZ.out⟩
end Go.Proofs.YtnnddjmdpplolaaGreatDoor
