/- Merged texts (PfA, PfB). -/
import Derived.Test.YtkhebanpplokdaaGreatDoorZpj
import Derived.Test.YtkhebanpplokdaaGreatDoorPnR
import Derived.Test.YtkhebanpplokdaaGreatDoorZbo
/- (*Plane).Publish of a wrong configuration, and of one too many (printed by wip/gen_pfa.py). -/
namespace Go.Proofs.YtkhebanpplokdaaGreatDoor
open Go.ChangeShapes Go.WideShapes Go.ChangeAt Go.RowKit Go.Lib Go.Shelf Go.Maps
set_option maxRecDepth 100000 in
set_option maxHeartbeats 8000000 in
theorem publish_wrong {B : Nat} {w : World} {p bm : Nat} {vv : Value} {N : Nat} {pl : PlD} (h : PlaneIs B w p bm vv N pl) (B' : Nat) (c : ConfD) (ho : ConfOwn B' w c) (hB' : B' ≤ w.heap.size) (hf : ConfFit c) (hl : chkC c = 0 → c.E.length ≤ 19) (hr : chkC c ≠ 0) (h50 : pl.V.length ≤ 1000) (hm : MaxV w) :
  Calls Tryz.prog 14 #[.pointer (some ⟨p, 0, none⟩), c.val] w fun e w' => e = .returned (.tuple #[.int .i64 0, .int .i64 (chkC c)]) ∧ Ext w w' := by
 obtain ⟨cd, hcd1, hcd2⟩ := Tryz.confDesc
 have hx : Ext w (w.alloc (.cells #[c.sv, c.ev, c.rv, c.tv, .int .i64 c.w0, .int .i64 c.w1, .int .i64 c.w2, .int .i64 c.w3, .int .i64 c.w4, .int .i64 c.w5, .int .i64 c.w6, .int .i64 c.panic, .int .i64 c.low, .int .i64 c.high, .int .i64 c.wait, .int .i64 c.hop, .int .i64 c.life, .int .i64 c.purse, .int .i64 c.horizon, .int .i64 c.sample] 30)) := (Below.refl _ _).alloc (Nat.le_refl _) _
 have hbx : BoxC (w.alloc (.cells #[c.sv, c.ev, c.rv, c.tv, .int .i64 c.w0, .int .i64 c.w1, .int .i64 c.w2, .int .i64 c.w3, .int .i64 c.w4, .int .i64 c.w5, .int .i64 c.w6, .int .i64 c.panic, .int .i64 c.low, .int .i64 c.high, .int .i64 c.wait, .int .i64 c.hop, .int .i64 c.life, .int .i64 c.purse, .int .i64 c.horizon, .int .i64 c.sample] 30)) w.heap.size c := heap_alloc_new w _
 obtain ⟨a, cc, hv⟩ := owns_shape h.row
 subst hv
 have H := hide h
 have HO := hide ho
 have HF := hide hf
 have HM := hide hm
 have HB' := hide hB'
 have HR := hide hr
 clear h ho hf hm hB' hr
 show Calls Tryz.prog 14 #[.pointer (some ⟨p, 0, none⟩), .agg #[c.sv, c.ev, c.rv, c.tv, .int .i64 c.w0, .int .i64 c.w1, .int .i64 c.w2, .int .i64 c.w3, .int .i64 c.w4, .int .i64 c.w5, .int .i64 c.w6, .int .i64 c.panic, .int .i64 c.low, .int .i64 c.high, .int .i64 c.wait, .int .i64 c.hop, .int .i64 c.life, .int .i64 c.purse, .int .i64 c.horizon, .int .i64 c.sample]] w _
 go_enter Tryz.func14, Tryz.ntmps14
 have c1 := (H.out.ext hx).c1
 have hw1 : IntKind.i64.wrap ((pl.V.length : Int) + 1) = (pl.V.length : Int) + 1 := by rw [IntKind.wrap_i64]; omega
 go_upto_region 2 with (fail)
 generalize w.alloc (.cells #[c.sv, c.ev, c.rv, c.tv, .int .i64 c.w0, .int .i64 c.w1, .int .i64 c.w2, .int .i64 c.w3, .int .i64 c.w4, .int .i64 c.w5, .int .i64 c.w6, .int .i64 c.panic, .int .i64 c.low, .int .i64 c.high, .int .i64 c.wait, .int .i64 c.hop, .int .i64 c.life, .int .i64 c.purse, .int .i64 c.horizon, .int .i64 c.sample] 30) = W at hx hbx c1 ⊢
 refine wp_region_lit ?_
 refine wpList_plain rfl fun K hK => ?_
 go_simp
 refine hK _ _ ?_
 refine wpList_load_mid rfl 30 (.tmp 3) rfl w.heap.size 0 rfl (encC c) cd (hbx.range) hcd1 hcd2 Tryz.confSize ?_
 simp only [Act.put]
 have HX := hide hx
 have HBX := hide hbx
 clear hx hbx c1
 go_wp2_with fail
 refine (mnew_gen ((pl.V.length : Int) + 1) B' c W (HM.out.ext HX.out) (Nat.le_trans HB'.out HX.out.size) (HO.out.ext HX.out) HF.out hl).mono ?_
 rintro e W2 ⟨E2, ⟨-, rfl⟩ | ⟨hz, -⟩⟩
 ·have HE := hide (HX.out.trans E2)
  obtain ⟨z, hz⟩ : ∃ z, chkC c = z := ⟨_, rfl⟩
  have hrz := HR.out
  rw [hz] at hrz ⊢
  have HZ := hide hz
  have hq : (z != 0) = true := by simpa using hrz
  clear hrz E2 hz hl
  go_wp2
  go_ret2
  rw [HZ.out]
  exact ⟨rfl, HE.out⟩
 ·exact absurd hz HR.out
set_option maxRecDepth 100000 in
set_option maxHeartbeats 8000000 in
theorem publish_full {B : Nat} {w : World} {p bm : Nat} {vv : Value} {N : Nat} {pl : PlD} (h : PlaneIs B w p bm vv N pl) (B' : Nat) (c : ConfD) (ho : ConfOwn B' w c) (hB' : B' ≤ w.heap.size) (hf : ConfFit c) (hl : chkC c = 0 → c.E.length ≤ 19) (hr : chkC c = 0) (h50 : 50 ≤ pl.V.length ∧ pl.V.length ≤ 1000) (hm : MaxV w) :
  Calls Tryz.prog 14 #[.pointer (some ⟨p, 0, none⟩), c.val] w fun e w' => e = .returned (.tuple #[.int .i64 0, .int .i64 3]) ∧ Ext w w' := by
 obtain ⟨cd, hcd1, hcd2⟩ := Tryz.confDesc
 have hx : Ext w (w.alloc (.cells #[c.sv, c.ev, c.rv, c.tv, .int .i64 c.w0, .int .i64 c.w1, .int .i64 c.w2, .int .i64 c.w3, .int .i64 c.w4, .int .i64 c.w5, .int .i64 c.w6, .int .i64 c.panic, .int .i64 c.low, .int .i64 c.high, .int .i64 c.wait, .int .i64 c.hop, .int .i64 c.life, .int .i64 c.purse, .int .i64 c.horizon, .int .i64 c.sample] 30)) := (Below.refl _ _).alloc (Nat.le_refl _) _
 have hbx : BoxC (w.alloc (.cells #[c.sv, c.ev, c.rv, c.tv, .int .i64 c.w0, .int .i64 c.w1, .int .i64 c.w2, .int .i64 c.w3, .int .i64 c.w4, .int .i64 c.w5, .int .i64 c.w6, .int .i64 c.panic, .int .i64 c.low, .int .i64 c.high, .int .i64 c.wait, .int .i64 c.hop, .int .i64 c.life, .int .i64 c.purse, .int .i64 c.horizon, .int .i64 c.sample] 30)) w.heap.size c := heap_alloc_new w _
 obtain ⟨a, cc, hv⟩ := owns_shape h.row
 subst hv
 have H := hide h
 have HO := hide ho
 have HF := hide hf
 have HM := hide hm
 have HB' := hide hB'
 have HR := hide hr
 clear h ho hf hm hB' hr
 show Calls Tryz.prog 14 #[.pointer (some ⟨p, 0, none⟩), .agg #[c.sv, c.ev, c.rv, c.tv, .int .i64 c.w0, .int .i64 c.w1, .int .i64 c.w2, .int .i64 c.w3, .int .i64 c.w4, .int .i64 c.w5, .int .i64 c.w6, .int .i64 c.panic, .int .i64 c.low, .int .i64 c.high, .int .i64 c.wait, .int .i64 c.hop, .int .i64 c.life, .int .i64 c.purse, .int .i64 c.horizon, .int .i64 c.sample]] w _
 go_enter Tryz.func14, Tryz.ntmps14
 have c1 := (H.out.ext hx).c1
 have hw1 : IntKind.i64.wrap ((pl.V.length : Int) + 1) = (pl.V.length : Int) + 1 := by rw [IntKind.wrap_i64]; omega
 go_upto_region 2 with (fail)
 generalize w.alloc (.cells #[c.sv, c.ev, c.rv, c.tv, .int .i64 c.w0, .int .i64 c.w1, .int .i64 c.w2, .int .i64 c.w3, .int .i64 c.w4, .int .i64 c.w5, .int .i64 c.w6, .int .i64 c.panic, .int .i64 c.low, .int .i64 c.high, .int .i64 c.wait, .int .i64 c.hop, .int .i64 c.life, .int .i64 c.purse, .int .i64 c.horizon, .int .i64 c.sample] 30) = W at hx hbx c1 ⊢
 refine wp_region_lit ?_
 refine wpList_plain rfl fun K hK => ?_
 go_simp
 refine hK _ _ ?_
 refine wpList_load_mid rfl 30 (.tmp 3) rfl w.heap.size 0 rfl (encC c) cd (hbx.range) hcd1 hcd2 Tryz.confSize ?_
 simp only [Act.put]
 have HX := hide hx
 have HBX := hide hbx
 clear hx hbx c1
 go_wp2_with fail
 refine (mnew_gen ((pl.V.length : Int) + 1) B' c W (HM.out.ext HX.out) (Nat.le_trans HB'.out HX.out.size) (HO.out.ext HX.out) HF.out hl).mono ?_
 rintro e W2 ⟨E2, ⟨hne, -⟩ | ⟨-, b, rfl, -⟩⟩
 ·exact absurd HR.out hne
 ·have HE := hide (HX.out.trans E2)
  have hgt : (pl.V.length : Int) + 1 > 50 := by omega
  clear E2 hl
  go_wp2
  go_ret2
  exact ⟨rfl, HE.out⟩
end Go.Proofs.YtkhebanpplokdaaGreatDoor
/- PlaneFull: its walk (printed by wip/gen_pfb.py). -/
namespace Go.Proofs.YtkhebanpplokdaaGreatDoor
open Go.ChangeShapes Go.WideShapes Go.ChangeAt Go.RowKit Go.Lib Go.Shelf Go.Maps
/-- Publish, whatever the configuration -/
theorem pl_pub_all {B N p bm : Nat} {w : World} {pl : PlD} (h : Pl B N w p bm pl) (B' : Nat) (c : ConfD) (ho : ConfOwn B' w c) (hB' : B' ≤ w.heap.size) (hf : ConfFit c) (hl : chkC c = 0 → c.E.length ≤ 19) (hm : MaxV w) (h50 : pl.V.length ≤ 50) (hB : B ≤ w.heap.size) :
  Calls Tryz.prog 14 #[.pointer (some ⟨p, 0, none⟩), c.val] w fun e w' => ∃ (v er : Int) (pl' : PlD), e = .returned (.tuple #[.int .i64 v, .int .i64 er]) ∧ Pl B N w' p bm pl' ∧ KP B w w' ∧ ((chkC c ≠ 0 ∧ v = 0 ∧ er = chkC c ∧ pl' = pl) ∨ (chkC c = 0 ∧ pl.V.length < 50 ∧ v = (pl.V.length : Int) + 1 ∧ er = 0 ∧ pl'.V.length = pl.V.length + 1) ∨ (chkC c = 0 ∧ pl.V.length = 50 ∧ v = 0 ∧ er = 3 ∧ pl' = pl)) := by
 by_cases hz : chkC c = 0
 ·by_cases h5 : pl.V.length < 50
  ·refine (pl_publish h B' c ho hB' hf (hl hz) hz hm h5 hB).mono ?_
   rintro e w' ⟨rfl, ⟨b, hp⟩, hk⟩
   exact ⟨_, _, _, rfl, hp, hk, .inr (.inl ⟨hz, h5, rfl, rfl, by simp [pubP]⟩)⟩
  ·obtain ⟨vv, hi⟩ := h
   refine (publish_full hi B' c ho hB' hf hl hz ⟨by omega, by omega⟩ hm).mono ?_
   rintro e w' ⟨rfl, E⟩
   exact ⟨_, _, _, rfl, ⟨vv, hi.ext E⟩, KP.of_ext E, .inr (.inr ⟨hz, by omega, rfl, rfl, rfl⟩)⟩
 ·obtain ⟨vv, hi⟩ := h
  refine (publish_wrong hi B' c ho hB' hf hl hz (by omega) hm).mono ?_
  rintro e w' ⟨rfl, E⟩
  exact ⟨_, _, _, rfl, ⟨vv, hi.ext E⟩, KP.of_ext E, .inl ⟨hz, rfl, rfl, rfl⟩⟩
theorem gen_len {c : ConfD} {L : List Int} (h : c.core = genC L) : BnLen c ∧ c.T.length = 1 ∧ c.E.length ≤ 10 := by
 have hg := good_conf h
 have h0 := (chkC_ends hg.2.1)
 have e1 : c.S.length = (svcsN L (svcsM L)).length := by
  have := congrArg (fun c : ConfD => c.S.length) h
  simpa [ConfD.core, genC] using this
 have e2 : c.E.length = (endsA L (svcsM L) ++ endsZ L (svcsM L) (endsM L)).length := by
  have := congrArg (fun c : ConfD => c.E.length) h
  simpa [ConfD.core, genC] using this
 have e3 : c.R.length = (rulesC L (svcsM L) (numR L)).length + 1 := by
  have := congrArg (fun c : ConfD => c.R.length) h
  simpa [ConfD.core, genC] using this
 have e4 : c.T.length = 1 := by
  have := congrArg (fun c : ConfD => c.T.length) h
  simpa [ConfD.core, genC] using this
 have m1 : 1 ≤ svcsM L := by unfold svcsM; omega
 have m4 := numR_le L
 have := hg.2.2
 rw [svcsN_len] at e1
 rw [List.length_append, endsA_len, endsZ_len] at e2
 rw [rulesC_len] at e3
 refine ⟨⟨by omega, by omega, by omega, by omega, by omega, by omega, by omega⟩, e4, by omega⟩
set_option maxRecDepth 100000 in
set_option maxHeartbeats 16000000 in
theorem full17_walk (many : Int) (L : List Int) (v : Value) (how n : Int) (w : World) (hmy : I64 many) (hs : Ints w v L) (hL : ∀ x ∈ L, I64 x) (hhow : I64 how) (hn : I64 n) (hm : MaxV w) :
  Calls Tryz.prog 4 #[.int .i64 many, v, .int .i64 how, .int .i64 n] w fun e w' => e = .returned (.bool true) ∧ Ext w w' := by
 obtain ⟨cd, hcd1, hcd2⟩ := Tryz.confDesc
 obtain ⟨hl63, a, cap, rfl⟩ := hs.shape
 have HM := hide hm
 have HS := hide hs
 have HL := hide hL
 have HN := hide (show I64 how ∧ I64 n from ⟨hhow, hn⟩)
 have hr1 := around_bd many 5 (by decide)
 obtain ⟨r, hr⟩ : ∃ r : Nat, around many 5 = (r : Int) := ⟨(around many 5).toNat, by omega⟩
 rw [hr] at hr1
 have har := fun X => around_any many 5 X hmy (by omega)
 simp only [hr] at har
 have HAR := hide har
 have hwr : IntKind.i64.wrap (48 + (r : Int)) = ((48 + r : Nat) : Int) := by rw [IntKind.wrap_i64]; omega
 obtain ⟨k, hk⟩ : ∃ k : Nat, 48 + r = k := ⟨_, rfl⟩
 rw [hk] at hwr
 have hk48 : 48 ≤ k ∧ k ≤ 52 := by omega
 clear hm hs hL hhow hn har hr hr1 hk hmy
 go_enter Tryz.func4, Tryz.ntmps4
 go_wp2_with fail
 refine (pl_new 1 w (by decide)).mono ?_
 rintro e W0 ⟨p, bm, rfl, hp0, E0⟩
 have HP := hide (show Pl w.heap.size 0 W0 p bm (pl0 1) from hp0)
 have HE0 := hide E0
 clear hp0 E0
 go_wp2_with fail
 refine (HAR.out _).mono ?_
 rintro e w' ⟨rfl, rfl⟩
 clear HAR
 go_wp2_with fail
 refine (conf_any [] (.slice none 0 0) W0 (ints_nil _) (fun _ h => by cases h)).mono ?_
 rintro e W1 ⟨c, rfl, hc, ho, E1⟩
 have G := hide (good_conf hc)
 clear hc hwr
 have hbz := heap_alloc_new W1 (.cells #[.slice none 0 0, .slice none 0 0, .slice none 0 0, .slice none 0 0, .int .i64 0, .int .i64 0, .int .i64 0, .int .i64 0, .int .i64 0, .int .i64 0, .int .i64 0, .int .i64 0, .int .i64 0, .int .i64 0, .int .i64 0, .int .i64 0, .int .i64 0, .int .i64 0, .int .i64 0, .int .i64 0] 30)
 have hxz : Ext W1 (W1.alloc (.cells #[.slice none 0 0, .slice none 0 0, .slice none 0 0, .slice none 0 0, .int .i64 0, .int .i64 0, .int .i64 0, .int .i64 0, .int .i64 0, .int .i64 0, .int .i64 0, .int .i64 0, .int .i64 0, .int .i64 0, .int .i64 0, .int .i64 0, .int .i64 0, .int .i64 0, .int .i64 0, .int .i64 0] 30)) := (Below.refl _ _).alloc (Nat.le_refl _) _
 have hth : (W1.alloc (.cells #[.slice none 0 0, .slice none 0 0, .slice none 0 0, .slice none 0 0, .int .i64 0, .int .i64 0, .int .i64 0, .int .i64 0, .int .i64 0, .int .i64 0, .int .i64 0, .int .i64 0, .int .i64 0, .int .i64 0, .int .i64 0, .int .i64 0, .int .i64 0, .int .i64 0, .int .i64 0, .int .i64 0] 30)).there W1.heap.size 0 20 := fun q hq => by
  rw [Nat.zero_add]
  refine ⟨?_, by simp only [World.frozen?]; rw [hbz]; simp⟩
  simp only [World.cell?, hbz]
  simp [hq]
 go_upto_region 6 with (refine wpList_store_mid rfl 30 (.tmp 11) (.tmp 25) rfl W1.heap.size 0 (encC c).toArray rfl rfl hth Tryz.confSize (all_oneCell_toArray (encC_one' ho)) ?_)
 generalize W1.alloc (.cells #[.slice none 0 0, .slice none 0 0, .slice none 0 0, .slice none 0 0, .int .i64 0, .int .i64 0, .int .i64 0, .int .i64 0, .int .i64 0, .int .i64 0, .int .i64 0, .int .i64 0, .int .i64 0, .int .i64 0, .int .i64 0, .int .i64 0, .int .i64 0, .int .i64 0, .int .i64 0, .int .i64 0] 30) = Wz at hbz hxz hth ⊢
 obtain ⟨b4, hbe⟩ : ∃ b, W1.heap.size = b := ⟨_, rfl⟩
 rw [hbe] at hbz hth ⊢
 have hbb4 : w.heap.size ≤ b4 := by have := (HE0.out.trans E1).size; omega
 have hrs := World.rangeAt_setCells_same Wz b4 0 (encC c) hth
 obtain ⟨cs, hcs1, hcs2⟩ := setCells_block b4 30 (0, 0) (encC c) 0 Wz _ hbz
 have hk5 := keeps_setCells b4 (encC c) 0 Wz
 show Code.wp _ _ _ _ (Wz.setCells b4 0 (encC c))
 generalize Wz.setCells b4 0 (encC c) = W2 at hrs hk5 hcs1 ⊢
 have HB := hide (show BoxC W2 b4 c from BoxC.of_range hcs1 (by rw [hcs2]; rfl) hrs)
 have HX := hide (Keeps.ext ((HE0.out.trans E1).trans hxz) hk5 (fun g hg => by omega))
 have HO := hide (((ho).ext hxz).keepT hk5 (OfT.one hbz) (by decide) (by decide) (by decide) (by decide) (by decide) (by decide) (by decide))
 have hGb4 : W1.heap.size ≤ b4 := by omega
 have hEb4 : Ext W1 W2 := ((Keeps.of_ext hxz).trans hk5 : Keeps (fun g => g = b4) W1 W2).below (Nat.le_refl _) (fun g hg => by omega)
 clear hrs hk5 hcs1 hcs2 hbz hxz hth
 have HP2 := hide (HP.out.ext (E1.trans hEb4))
 have hB' : W0.heap.size ≤ W2.heap.size := by have := E1.size; have := hEb4.size; omega
 have HBB := hide hB'
 clear HP ho E1 hEb4 hGb4 hB' HE0
 go_wp2_with fail
 go_loopw [12] (fun v12 wr => ∃ i : Nat, i ≤ k ∧ v12 = .int .i64 ((i : Int) + 1) ∧ ∃ pl, Pl w.heap.size 0 wr p bm pl ∧ pl.V.length = min i 50 ∧ KP w.heap.size W2 wr) (fun i _ => (k + 1) - (intOf i).toNat)
 case atStart => exact ⟨0, Nat.zero_le _, rfl, _, HP2.out, rfl, KP.refl _ _⟩
 case round =>
  obtain ⟨i, hik, rfl, pl, hp, hpl, hkp⟩ := hrel
  generalize wr = w1 at *
  have HPL := hide hp
  have HKP := hide hkp
  have HPN := hide hpl
  clear hp hkp
  obtain ⟨z, hz⟩ : ∃ z : Int, (i : Int) + 1 = z := ⟨_, rfl⟩
  rw [hz]
  by_cases hlt : i < k
  ·have hltz : z ≤ (k : Int) := by omega
   have hwi : IntKind.i64.wrap (z + 1) = z + 1 := by rw [IntKind.wrap_i64]; omega
   have HWI := hide hwi
   have HZ := hide hz
   have hpub := pl_pub_all HPL.out W0.heap.size c (HKP.out.conf HO.out) (Nat.le_trans HBB.out HKP.out.size) G.out.1 (fun _ => Nat.le_trans G.out.2.2 (by decide)) (HM.out.ext (HKP.out.ext HX.out (Nat.le_refl _))) (by rw [hpl]; omega) (Nat.le_trans HX.out.size HKP.out.size)
   have HPU := hide hpub
   clear hpub hwi hz
   go_upto_region 9 with (fail)
   refine wp_region_lit ?_
   refine wpList_plain rfl fun K hK => ?_
   go_simp
   refine hK _ _ ?_
   refine wpList_load_mid rfl 30 (.tmp 11) rfl b4 0 rfl (encC c) cd ((HKP.out.boxC HB.out).range) hcd1 hcd2 Tryz.confSize ?_
   simp only [Act.put]
   go_wp2_with fail
   refine HPU.out.mono ?_
   rintro e w3 ⟨ve, er, pl', rfl, hp3, hk3, hcase⟩
   have HP3 := hide hp3
   have HK3 := hide (HKP.out.trans hk3)
   clear hp3 hk3 HPU
   rcases hcase with ⟨hne, -⟩ | ⟨-, h5, rfl, rfl, hl3⟩ | ⟨-, h5, rfl, rfl, rfl⟩
   ·exact absurd G.out.2.1 hne
   ·have hz := HZ.out
    have hm := Nat.min_eq_left (show i ≤ 50 by rw [hpl] at h5; omega)
    have hl3' : pl'.V.length = min (i + 1) 50 := by rw [hl3, hpl]; omega
    have hvz : (pl.V.length : Int) + 1 = z := by rw [hpl, hm]; exact hz
    rw [hvz]
    have hz50 : z ≤ 50 := by omega
    have hz50' : ¬ z > 50 := by omega
    have hwi := HWI.out
    have HL3 := hide hl3'
    clear hl3 hl3' hvz hm hz h5 hpl hik hlt
    go_wp2
    go_roundw
    case rel => exact ⟨i + 1, by have := HZ.out; omega, by first | (rw [HWI.out, ← HZ.out]; exact congrArg (Value.int .i64) (by omega)) | (rw [← HZ.out]; go_num), pl', HP3.out, HL3.out, HK3.out⟩
    case measure => (simp [intOf]) <;> (have q1 := HWI.out; have q2 := HZ.out; omega)
   ·have hz := HZ.out
    have hi50 : 50 ≤ i := by rw [hpl] at h5; omega
    have hl3' : pl'.V.length = min (i + 1) 50 := by rw [h5]; omega
    have hz50 : ¬ z ≤ 50 := by omega
    have hz50' : z > 50 := by omega
    have hwi := HWI.out
    have HL3 := hide hl3'
    clear hl3' hz h5 hpl hik hlt hi50
    go_wp2
    go_roundw
    case rel => exact ⟨i + 1, by have := HZ.out; omega, by first | (rw [HWI.out, ← HZ.out]; exact congrArg (Value.int .i64) (by omega)) | (rw [← HZ.out]; go_num), pl', HP3.out, HL3.out, HK3.out⟩
    case measure => (simp [intOf]) <;> (have q1 := HWI.out; have q2 := HZ.out; omega)
  ·obtain rfl : i = k := by omega
   have hltz : ¬ z ≤ (i : Int) := by omega
   have HX3 := hide (HKP.out.ext HX.out (Nat.le_refl _))
   have hpn : pl.V.length = min i 50 := hpl
   clear hz hlt HKP HB HO HP2 HBB hpl
   go_wp2_with fail
   refine (conf_any L _ w1 (HS.out.ext HX3.out) HL.out).mono ?_
   rintro e w2 ⟨c1, rfl, hc1, ho1, E1⟩
   have hgl := gen_len hc1
   have hg1 := good_conf hc1
   have HGL := hide hgl
   have HO1 := hide ho1
   have HE1 := hide E1
   have hbn := bent16_any c1 how n w1.heap.size w2 HO1.out HE1.out.size hg1.1 hgl.1 HN.out.1 HN.out.2
   have HBN := hide hbn
   clear hbn hc1 ho1 E1 hgl hg1 hltz HPN
   go_wp2_with fail
   refine HBN.out.mono ?_
   rintro e w3 ⟨x, m, rfl, hox, hfx, hcn, -, -, -, -, hkx⟩
   have hfew : chkC x = 0 → x.E.length ≤ 19 := fun hz => by
    obtain ⟨-, h1, h2, h3, h4, h5, -⟩ := chkC_ends hz
    obtain ⟨-, ⟨k1, -⟩, -, -, k4, k5⟩ := hcn
    obtain ⟨-, g1, g2⟩ := HGL.out
    have hm3 : m ≤ 3 := by omega
    have : m * m ≤ 3 * 3 := Nat.mul_le_mul hm3 hm3
    omega
   have htb : ∀ g, c1.tv.ownBlock = some g → w1.heap.size ≤ g := fun g hg => (HO1.out.t.lt g hg).1
   have hE13 : Ext w1 w3 := Keeps.ext HE1.out hkx (fun g hg => htb g hg)
   have HFEW := hide hfew
   have HFX := hide hfx
   have HE13 := hide hE13
   have hox' := hox
   clear hcn hkx htb hfew hfx hE13 HBN HO1 HGL HE1
   have hbz := heap_alloc_new w3 (.cells #[.slice none 0 0, .slice none 0 0, .slice none 0 0, .slice none 0 0, .int .i64 0, .int .i64 0, .int .i64 0, .int .i64 0, .int .i64 0, .int .i64 0, .int .i64 0, .int .i64 0, .int .i64 0, .int .i64 0, .int .i64 0, .int .i64 0, .int .i64 0, .int .i64 0, .int .i64 0, .int .i64 0] 30)
   have hxz : Ext w3 (w3.alloc (.cells #[.slice none 0 0, .slice none 0 0, .slice none 0 0, .slice none 0 0, .int .i64 0, .int .i64 0, .int .i64 0, .int .i64 0, .int .i64 0, .int .i64 0, .int .i64 0, .int .i64 0, .int .i64 0, .int .i64 0, .int .i64 0, .int .i64 0, .int .i64 0, .int .i64 0, .int .i64 0, .int .i64 0] 30)) := (Below.refl _ _).alloc (Nat.le_refl _) _
   have hth : (w3.alloc (.cells #[.slice none 0 0, .slice none 0 0, .slice none 0 0, .slice none 0 0, .int .i64 0, .int .i64 0, .int .i64 0, .int .i64 0, .int .i64 0, .int .i64 0, .int .i64 0, .int .i64 0, .int .i64 0, .int .i64 0, .int .i64 0, .int .i64 0, .int .i64 0, .int .i64 0, .int .i64 0, .int .i64 0] 30)).there w3.heap.size 0 20 := fun q hq => by
    rw [Nat.zero_add]
    refine ⟨?_, by simp only [World.frozen?]; rw [hbz]; simp⟩
    simp only [World.cell?, hbz]
    simp [hq]
   go_upto_region 13 with (refine wpList_store_mid rfl 30 (.tmp 15) (.tmp 64) rfl w3.heap.size 0 (encC x).toArray rfl rfl hth Tryz.confSize (all_oneCell_toArray (encC_one' hox')) ?_)
   generalize w3.alloc (.cells #[.slice none 0 0, .slice none 0 0, .slice none 0 0, .slice none 0 0, .int .i64 0, .int .i64 0, .int .i64 0, .int .i64 0, .int .i64 0, .int .i64 0, .int .i64 0, .int .i64 0, .int .i64 0, .int .i64 0, .int .i64 0, .int .i64 0, .int .i64 0, .int .i64 0, .int .i64 0, .int .i64 0] 30) = Wz at hbz hxz hth ⊢
   obtain ⟨b15, hbe⟩ : ∃ b, w3.heap.size = b := ⟨_, rfl⟩
   rw [hbe] at hbz hth ⊢
   have hbb15 : w.heap.size ≤ b15 := by have := ((HX3.out.trans HE13.out)).size; omega
   have hrs := World.rangeAt_setCells_same Wz b15 0 (encC x) hth
   obtain ⟨cs, hcs1, hcs2⟩ := setCells_block b15 30 (0, 0) (encC x) 0 Wz _ hbz
   have hk5 := keeps_setCells b15 (encC x) 0 Wz
   show Code.wp _ _ _ _ (Wz.setCells b15 0 (encC x))
   generalize Wz.setCells b15 0 (encC x) = W5 at hrs hk5 hcs1 ⊢
   have HB5 := hide (show BoxC W5 b15 x from BoxC.of_range hcs1 (by rw [hcs2]; rfl) hrs)
   have HX5 := hide (Keeps.ext (((HX3.out.trans HE13.out)).trans hxz) hk5 (fun g hg => by omega))
   have HO5 := hide (((hox').ext hxz).keepT hk5 (OfT.one hbz) (by decide) (by decide) (by decide) (by decide) (by decide) (by decide) (by decide))
   have hGb15 : w3.heap.size ≤ b15 := by omega
   have hEb15 : Ext w3 W5 := ((Keeps.of_ext hxz).trans hk5 : Keeps (fun g => g = b15) w3 W5).below (Nat.le_refl _) (fun g hg => by omega)
   clear hrs hk5 hcs1 hcs2 hbz hxz hth
   have HP5 := hide (HPL.out.ext (HE13.out.trans hEb15))
   have hb1 := (HE13.out.trans hEb15).size
   have HPP := hide (pl_pub_all HP5.out w1.heap.size x HO5.out hb1 HFX.out HFEW.out (HM.out.ext HX5.out) (by rw [hpn]; omega) HX5.out.size)
   clear hox hox' HPL HE13 hGb15 hEb15 hb1 HX3
   go_upto_region 13 with (fail)
   refine wp_region_lit ?_
   refine wpList_plain rfl fun K hK => ?_
   go_simp
   refine hK _ _ ?_
   refine wpList_load_mid rfl 30 (.tmp 15) rfl b15 0 rfl (encC x) cd (HB5.out.range) hcd1 hcd2 Tryz.confSize ?_
   simp only [Act.put]
   go_wp2_with fail
   refine HPP.out.mono ?_
   rintro e W6 ⟨ve, er, pl', rfl, hp6, hk6, hcase⟩
   have HX6 := hide (hk6.ext HX5.out (Nat.le_refl _))
   have HB6 := hide (hk6.boxC HB5.out)
   have HO6 := hide (hk6.conf HO5.out)
   clear hp6 hk6 HPP HP5 HB5 HO5
   go_upto_region 14 with (fail)
   refine wp_region_lit ?_
   refine wpList_load_mid rfl 30 (.tmp 15) rfl b15 0 rfl (encC x) cd (HB6.out.range) hcd1 hcd2 Tryz.confSize ?_
   simp only [Act.put]
   go_wp2_with fail
   refine (check_any x W6 (HM.out.ext HX6.out) HO6.out.ok HFX.out).mono ?_
   rintro e W7 ⟨rfl, E7⟩
   have HX7 := hide (HX6.out.trans E7)
   obtain ⟨z0, hz0⟩ : ∃ z0, chkC x = z0 := ⟨_, rfl⟩
   rw [hz0] at hcase ⊢
   have hwk : IntKind.i64.wrap ((i : Int) + 1) = (i : Int) + 1 := by rw [IntKind.wrap_i64]; omega
   clear hz0 E7 HX6 HFEW HFX HO6 HB6
   rcases hcase with ⟨hne, rfl, rfl, -⟩ | ⟨rfl, h5, rfl, rfl, -⟩ | ⟨rfl, h5, rfl, rfl, -⟩
   ·have hq : (er != 0) = true := by simpa using hne
    clear hne
    go_wp2_with fail
    refine (lives17_any W7 (HM.out.ext HX7.out)).mono ?_
    rintro e w9 ⟨rfl, E9⟩
    have HZ := hide (HX7.out.trans E9)
    clear E9
    go_wp2
    go_ret
    exact ⟨rfl, HZ.out⟩
   ·have hi50 : (i : Int) < 50 := by rw [hpn] at h5; omega
    have hvz : (pl.V.length : Int) + 1 = (i : Int) + 1 := by rw [hpn]; omega
    rw [hvz]
    clear hvz h5 hpn
    go_wp2_with fail
    refine (lives17_any W7 (HM.out.ext HX7.out)).mono ?_
    rintro e w9 ⟨rfl, E9⟩
    have HZ := hide (HX7.out.trans E9)
    clear E9
    go_wp2
    go_ret
    exact ⟨rfl, HZ.out⟩
   ·have hi50 : ¬ (i : Int) < 50 := by rw [hpn] at h5; omega
    have hq1 : ((0 : Int) == (i : Int) + 1) = false := by simp; omega
    have hq2 : ¬ (0 : Int) = (i : Int) + 1 := by omega
    clear h5 hpn
    go_wp2_with fail
    refine (lives17_any W7 (HM.out.ext HX7.out)).mono ?_
    rintro e w9 ⟨rfl, E9⟩
    have HZ := hide (HX7.out.trans E9)
    clear E9
    go_wp2
    go_ret
    refine ⟨?_, HZ.out⟩
    show Ending.returned (.bool (!decide ((i : Int) < 50))) = _
    rw [decide_eq_false (by omega)]
    rfl
end Go.Proofs.YtkhebanpplokdaaGreatDoor
