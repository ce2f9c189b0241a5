/- SnapRow: its walk (printed by wip/gen_swm.py). -/
import Derived.Test.YtofjcokclegkhaaGreatDoorZss
import Derived.Test.YtofjcokclegkhaaGreatDoorZrk
import Derived.Test.YtofjcokclegkhaaGreatDoorZrw
import Derived.BigFrame
namespace Go.Proofs.YtofjcokclegkhaaGreatDoor
open Go.ChangeShapes Go.WideShapes Go.ChangeAt Go.RowKit Go.Lib Go.Shelf Go.Maps
def cfS (c : ConfD) (v : Value) (S : List SvcD) (u : Value) (E : List EndD) : ConfD := { c with sv := v, S := S, ev := u, E := E }
theorem encE_one3 (x : EndD) : ∀ u ∈ encE x, u.oneCell' = true := by
 intro u hu
 simp only [encE, List.mem_cons, List.not_mem_nil, or_false] at hu
 rcases hu with rfl | rfl | rfl <;> rfl
theorem drop_rev {α : Type} (l : List α) (m : Nat) (h : m < l.length) : (l.drop m).reverse = (l.drop (m + 1)).reverse ++ [l[m]] := by
 rw [List.drop_eq_getElem_cons h, List.reverse_cons]
/-- the phases of 'append' of an element to a list of a boxed configuration -/
def PhAp {α : Type} (enc : α → List Value) (size : Nat) (T : TypeId) (B b fld : Nat) (W : World) (vr : Value) (n : Nat) (xs : List α) (x : α) : List Value → World → Prop
 | [], w' => Ext W w'
 | [s], w' => Ext W w' ∧ Sl enc size w' s [x]
 | [_, v], w' => ∃ p q, v = .slice p (n + 1) q ∧ w'.ownsRow B T size v (n + 1) (xs.flatMap enc ++ enc x) ∧ Keeps (fun g => vr.ownBlock = some g) W w'
 | [_, v, _], w' => ∃ w1, w1.ownsRow B T size v (n + 1) (xs.flatMap enc ++ enc x) ∧ Keeps (fun g => vr.ownBlock = some g) W w1 ∧ Ext (w1.setCell ⟨b, fld, none⟩ v) w'
 | _, _ => False
section
variable {α : Type} {enc : α → List Value} {size : Nat} {T : TypeId} {B b fld : Nat} {W : World} {vr : Value} {n : Nat} {xs : List α} {x : α}
theorem PhAp.keep : ∀ {vs : List Value} {w' w'' : World}, PhAp enc size T B b fld W vr n xs x vs w' → Ext w' w'' → PhAp enc size T B b fld W vr n xs x vs w''
 | [], _, _, h, e => Ext.trans h e
 | [_], _, _, h, e => ⟨h.1.trans e, h.2.ext e⟩
 | [_, _], _, _, h, e => by
  obtain ⟨p, q, h1, h2, h3⟩ := h
  exact ⟨p, q, h1, owns_ext h2 e, h3.trans (Keeps.of_ext e)⟩
 | [_, _, _], _, _, h, e => by
  obtain ⟨w1, h1, h2, h3⟩ := h
  exact ⟨w1, h1, h2, h3.trans e⟩
 | _ :: _ :: _ :: _ :: _, _, _, h, _ => h.elim
theorem PhAp.ext1 : ∀ {vs : List Value} {w' : World}, PhAp enc size T B b fld W vr n xs x vs w' → vs.length ≤ 1 → Ext W w'
 | [], _, h, _ => h
 | [_], _, h, _ => h.1
 | _ :: _ :: _, _, _, hl => by simp at hl
end
theorem turned_core {c ce : ConfD} (h : ce.core = c.core) (v u : Value) (S : List SvcD) (E : List EndD) : (cfS ce v S u E).core = (cfS c v S u E).core := by
 simp only [ConfD.core, ConfD.mk.injEq] at h
 simp only [ConfD.core, cfS, ConfD.mk.injEq]
 simp_all
theorem turned_right {c ce : ConfD} (h : ce.core = c.core) (hc : chkC c = 0) (v u : Value) : chkC (cfS ce v c.S.reverse u c.E.reverse) = 0 := by
 rw [← chkC_core, turned_core h, chkC_core]
 exact chkC_SE hc v u _ _ (List.reverse_perm _) (List.reverse_perm _)
theorem turned_fit {c ce : ConfD} (hc : ConfFit c) (he : ConfFit ce) (v u : Value) : ConfFit (cfS ce v c.S.reverse u c.E.reverse) :=
 ⟨fun s hs => hc.1 s (List.mem_reverse.1 hs), fun e hm => hc.2.1 e (List.mem_reverse.1 hm), he.2.2.1, by show c.S.reverse.length ≤ 1000; rw [List.length_reverse]; exact hc.2.2.2.1, by show c.E.reverse.length ≤ 1000; rw [List.length_reverse]; exact hc.2.2.2.2.1, he.2.2.2.2.2⟩
set_option maxRecDepth 100000 in
theorem frame152 (x : Nat → Value) : frameOf 152 x = #[x 0, x 1, x 2, x 3, x 4, x 5, x 6, x 7, x 8, x 9, x 10, x 11, x 12, x 13, x 14, x 15, x 16, x 17, x 18, x 19, x 20, x 21, x 22, x 23, x 24, x 25, x 26, x 27, x 28, x 29, x 30, x 31, x 32, x 33, x 34, x 35, x 36, x 37, x 38, x 39, x 40, x 41, x 42, x 43, x 44, x 45, x 46, x 47, x 48, x 49, x 50, x 51, x 52, x 53, x 54, x 55, x 56, x 57, x 58, x 59, x 60, x 61, x 62, x 63, x 64, x 65, x 66, x 67, x 68, x 69, x 70, x 71, x 72, x 73, x 74, x 75, x 76, x 77, x 78, x 79, x 80, x 81, x 82, x 83, x 84, x 85, x 86, x 87, x 88, x 89, x 90, x 91, x 92, x 93, x 94, x 95, x 96, x 97, x 98, x 99, x 100, x 101, x 102, x 103, x 104, x 105, x 106, x 107, x 108, x 109, x 110, x 111, x 112, x 113, x 114, x 115, x 116, x 117, x 118, x 119, x 120, x 121, x 122, x 123, x 124, x 125, x 126, x 127, x 128, x 129, x 130, x 131, x 132, x 133, x 134, x 135, x 136, x 137, x 138, x 139, x 140, x 141, x 142, x 143, x 144, x 145, x 146, x 147, x 148, x 149, x 150, x 151] := rfl
set_option maxRecDepth 100000 in
set_option maxHeartbeats 16000000 in
theorem row_walk (L : List Int) (id key : Int) (v : Value) (w : World) (hs : Ints w v L) (hL : ∀ x ∈ L, I64 x) (hid : I64 id) (hm : MaxV w) :
  Calls Tryz.prog 5 #[v, .int .i64 id, .int .u64 key] w fun e w' => e = .returned (.bool true) ∧ Ext w w' := by
 obtain ⟨cd, hcd1, hcd2⟩ := Tryz.confDesc
 obtain ⟨dv, hdv1, hdv2⟩ := Tryz.svcDesc
 have HMD := hide (made16_any L v w hs hL hm)
 obtain ⟨_, a, cap, rfl⟩ := hs.shape
 have HM := hide hm
 have HID := hide hid
 have HS := hide hs
 have HL := hide hL
 clear hs hL hm hid
 go_enter Tryz.func5, Tryz.ntmps5
 go_wp2_with fail
 refine HMD.out.mono ?_
 rintro e W1 ⟨ba, c, B, rfl, hc, ho, hB, hsa, E1⟩
 have HCC := hide hc
 clear hc HMD
 have hbz := heap_alloc_new W1 (.cells #[.slice none 0 0, .slice none 0 0, .slice none 0 0, .slice none 0 0, .int .i64 0, .int .i64 0, .int .i64 0, .int .i64 0, .int .i64 0, .int .i64 0, .int .i64 0, .int .i64 0, .int .i64 0, .int .i64 0, .int .i64 0, .int .i64 0, .int .i64 0, .int .i64 0, .int .i64 0, .int .i64 0] 30)
 have hxz : Ext W1 (W1.alloc (.cells #[.slice none 0 0, .slice none 0 0, .slice none 0 0, .slice none 0 0, .int .i64 0, .int .i64 0, .int .i64 0, .int .i64 0, .int .i64 0, .int .i64 0, .int .i64 0, .int .i64 0, .int .i64 0, .int .i64 0, .int .i64 0, .int .i64 0, .int .i64 0, .int .i64 0, .int .i64 0, .int .i64 0] 30)) := (Below.refl _ _).alloc (Nat.le_refl _) _
 have hth : (W1.alloc (.cells #[.slice none 0 0, .slice none 0 0, .slice none 0 0, .slice none 0 0, .int .i64 0, .int .i64 0, .int .i64 0, .int .i64 0, .int .i64 0, .int .i64 0, .int .i64 0, .int .i64 0, .int .i64 0, .int .i64 0, .int .i64 0, .int .i64 0, .int .i64 0, .int .i64 0, .int .i64 0, .int .i64 0] 30)).there W1.heap.size 0 20 := fun q hq => by
  rw [Nat.zero_add]
  refine ⟨?_, by simp only [World.frozen?]; rw [hbz]; simp⟩
  simp only [World.cell?, hbz]
  simp [hq]
 go_upto_region 2 with (refine wpList_store_mid rfl 30 (.tmp 8) (.tmp 27) rfl W1.heap.size 0 (encC c).toArray rfl rfl hth Tryz.confSize (all_oneCell_toArray (encC_one' ho)) ?_)
 generalize W1.alloc (.cells #[.slice none 0 0, .slice none 0 0, .slice none 0 0, .slice none 0 0, .int .i64 0, .int .i64 0, .int .i64 0, .int .i64 0, .int .i64 0, .int .i64 0, .int .i64 0, .int .i64 0, .int .i64 0, .int .i64 0, .int .i64 0, .int .i64 0, .int .i64 0, .int .i64 0, .int .i64 0, .int .i64 0] 30) = Wz at hbz hxz hth ⊢
 obtain ⟨b8, hbe⟩ : ∃ b, W1.heap.size = b := ⟨_, rfl⟩
 rw [hbe] at hbz hth ⊢
 have hbb8 : w.heap.size ≤ b8 := by have := (E1).size; omega
 have hrs := World.rangeAt_setCells_same Wz b8 0 (encC c) hth
 obtain ⟨cs, hcs1, hcs2⟩ := setCells_block b8 30 (0, 0) (encC c) 0 Wz _ hbz
 have hk5 := keeps_setCells b8 (encC c) 0 Wz
 show Code.wp _ _ _ _ (Wz.setCells b8 0 (encC c))
 generalize Wz.setCells b8 0 (encC c) = W2 at hrs hk5 hcs1 ⊢
 have HB2 := hide (show BoxC W2 b8 c from BoxC.of_range hcs1 (by rw [hcs2]; rfl) hrs)
 have HX2 := hide (Keeps.ext ((E1).trans hxz) hk5 (fun g hg => by omega))
 have HO2 := hide (((ho).ext hxz).keepT hk5 (OfT.one hbz) (by decide) (by decide) (by decide) (by decide) (by decide) (by decide) (by decide))
 have hGb8 : W1.heap.size ≤ b8 := by omega
 have hEb8 : Ext W1 W2 := ((Keeps.of_ext hxz).trans hk5 : Keeps (fun g => g = b8) W1 W2).below (Nat.le_refl _) (fun g hg => by omega)
 clear hrs hk5 hcs1 hcs2 hbz hxz hth
 have HSA2 := hide (hsa.ext hEb8)
 clear ho hsa E1 hEb8
 go_wp2_with fail
 refine (conf_any L _ W2 (HS.out.ext HX2.out) HL.out).mono ?_
 rintro e W3 ⟨ce, rfl, he, ho, E3⟩
 have HEE := hide he
 have hod := hide (owns_mono_conf ho HX2.out.size)
 clear he ho HS HL
 have hbz := heap_alloc_new W3 (.cells #[.slice none 0 0, .slice none 0 0, .slice none 0 0, .slice none 0 0, .int .i64 0, .int .i64 0, .int .i64 0, .int .i64 0, .int .i64 0, .int .i64 0, .int .i64 0, .int .i64 0, .int .i64 0, .int .i64 0, .int .i64 0, .int .i64 0, .int .i64 0, .int .i64 0, .int .i64 0, .int .i64 0] 30)
 have hxz : Ext W3 (W3.alloc (.cells #[.slice none 0 0, .slice none 0 0, .slice none 0 0, .slice none 0 0, .int .i64 0, .int .i64 0, .int .i64 0, .int .i64 0, .int .i64 0, .int .i64 0, .int .i64 0, .int .i64 0, .int .i64 0, .int .i64 0, .int .i64 0, .int .i64 0, .int .i64 0, .int .i64 0, .int .i64 0, .int .i64 0] 30)) := (Below.refl _ _).alloc (Nat.le_refl _) _
 have hth : (W3.alloc (.cells #[.slice none 0 0, .slice none 0 0, .slice none 0 0, .slice none 0 0, .int .i64 0, .int .i64 0, .int .i64 0, .int .i64 0, .int .i64 0, .int .i64 0, .int .i64 0, .int .i64 0, .int .i64 0, .int .i64 0, .int .i64 0, .int .i64 0, .int .i64 0, .int .i64 0, .int .i64 0, .int .i64 0] 30)).there W3.heap.size 0 20 := fun q hq => by
  rw [Nat.zero_add]
  refine ⟨?_, by simp only [World.frozen?]; rw [hbz]; simp⟩
  simp only [World.cell?, hbz]
  simp [hq]
 go_upto_region 5 with (refine wpList_store_mid rfl 30 (.tmp 9) (.tmp 31) rfl W3.heap.size 0 (encC ce).toArray rfl rfl hth Tryz.confSize (all_oneCell_toArray (encC_one' hod.out)) ?_)
 generalize W3.alloc (.cells #[.slice none 0 0, .slice none 0 0, .slice none 0 0, .slice none 0 0, .int .i64 0, .int .i64 0, .int .i64 0, .int .i64 0, .int .i64 0, .int .i64 0, .int .i64 0, .int .i64 0, .int .i64 0, .int .i64 0, .int .i64 0, .int .i64 0, .int .i64 0, .int .i64 0, .int .i64 0, .int .i64 0] 30) = Wz at hbz hxz hth ⊢
 obtain ⟨b9, hbe⟩ : ∃ b, W3.heap.size = b := ⟨_, rfl⟩
 rw [hbe] at hbz hth ⊢
 have hbb9 : w.heap.size ≤ b9 := by have := ((HX2.out.trans E3)).size; omega
 have hrs := World.rangeAt_setCells_same Wz b9 0 (encC ce) hth
 obtain ⟨cs, hcs1, hcs2⟩ := setCells_block b9 30 (0, 0) (encC ce) 0 Wz _ hbz
 have hk5 := keeps_setCells b9 (encC ce) 0 Wz
 show Code.wp _ _ _ _ (Wz.setCells b9 0 (encC ce))
 generalize Wz.setCells b9 0 (encC ce) = W4 at hrs hk5 hcs1 ⊢
 have HB4 := hide (show BoxC W4 b9 ce from BoxC.of_range hcs1 (by rw [hcs2]; rfl) hrs)
 have HX4 := hide (Keeps.ext (((HX2.out.trans E3)).trans hxz) hk5 (fun g hg => by omega))
 have HO4 := hide (((hod.out).ext hxz).keepT hk5 (OfT.one hbz) (by decide) (by decide) (by decide) (by decide) (by decide) (by decide) (by decide))
 have hGb9 : W3.heap.size ≤ b9 := by omega
 have hEb9 : Ext W3 W4 := ((Keeps.of_ext hxz).trans hk5 : Keeps (fun g => g = b9) W3 W4).below (Nat.le_refl _) (fun g hg => by omega)
 clear hrs hk5 hcs1 hcs2 hbz hxz hth
 have HB8 := hide (show ∀ X, Ext W3 X → BoxC X b8 c from fun X hX => HB2.out.ext (E3.trans hX))
 have HO8 := hide (show ∀ X, Ext W3 X → ConfOwn w.heap.size X c from fun X hX => HO2.out.ext (E3.trans hX))
 have HOE := hide (show ∀ X, Ext W3 X → ConfOwn w.heap.size X ce from fun X hX => hod.out.ext hX)
 have HSA := hide (show ∀ X, Ext W3 X → SnapAt B X ba 3 c from fun X hX => HSA2.out.ext (E3.trans hX))
 have HXW := hide (show Ext w W3 from HX2.out.trans E3)
 have g0 := good_conf HCC.out
 have g1 := good_conf HEE.out
 have HS10 := hide (chkC_ends g0.2.1).1
 have HE10 := hide g0.2.2
 have HCR := hide g0.2.1
 have HFT := hide g0.1
 have HFE := hide g1.1
 have HCO := hide (show ce.core = c.core from HEE.out.trans HCC.out.symm)
 have q0 : W4.cell? ⟨b9, 0, none⟩ = some ce.sv := HB4.out.cell 0 _ rfl
 have z0 : W4.frozen? ⟨b9, 0, none⟩ = false := HB4.out.frozen 0
 have q1 : W4.cell? ⟨b9, 1, none⟩ = some ce.ev := HB4.out.cell 1 _ rfl
 have z1 : W4.frozen? ⟨b9, 1, none⟩ = false := HB4.out.frozen 1
 have hbl := HB4.out.lt
 clear HSA2 HB2 HO2 HX2 hod HO4 HX4 g0 g1 HCC HEE E3
 go_upto_region 7 with (fail)
 have hb5 := (HB4.out.set (c' := cfS ce (.slice none 0 0) [] ce.ev ce.E) 0 (.slice none 0 0) rfl).set (c' := cfS ce (.slice none 0 0) [] (.slice none 0 0) []) 1 (.slice none 0 0) rfl
 have hk5 : Keeps (fun g => g = b9) W4 _ := (Keeps.of_set (X := fun g => g = b9) W4 b9 0 (.slice none 0 0) rfl).trans (Keeps.of_set (X := fun g => g = b9) _ b9 1 (.slice none 0 0) rfl)
 have he5 := ((Keeps.of_ext hEb9 : Keeps (fun g => g = b9) W3 W4).trans hk5).below (Nat.le_refl _) (fun g hg => by omega)
 generalize (W4.setCell ⟨b9, 0, none⟩ (.slice none 0 0)).setCell ⟨b9, 1, none⟩ (.slice none 0 0) = W5 at hb5 he5 ⊢
 have HB5 := hide hb5
 have HE5 := hide (show Ext W3 W5 from he5)
 clear q0 z0 q1 z1 hbl hb5 hk5 he5 hEb9 HB4
 have hqS : ∀ X, Ext W3 X → ∃ aL cL, X.cell? ⟨b8, 0, none⟩ = some (.slice aL c.S.length cL) ∧ Svcs X (.slice aL c.S.length cL) c.S := fun X hX => by
  have h := (HO8.out X hX).s
  obtain ⟨aL, cL, hv⟩ := owns_shape h
  refine ⟨aL, cL, ?_, ?_⟩
  ·rw [← hv]
   exact (HB8.out X hX).cell 0 _ rfl
  ·rw [← hv]
   exact Sl.of_own' (enc := encV) encV_len h
 have hqE : ∀ X, Ext W3 X → ∃ aL cL, X.cell? ⟨b8, 1, none⟩ = some (.slice aL c.E.length cL) ∧ Ends X (.slice aL c.E.length cL) c.E := fun X hX => by
  have h := (HO8.out X hX).e
  obtain ⟨aL, cL, hv⟩ := owns_shape h
  refine ⟨aL, cL, ?_, ?_⟩
  ·rw [← hv]
   exact (HB8.out X hX).cell 1 _ rfl
  ·rw [← hv]
   exact Sl.of_own' (enc := encE) encE_len h
 have HQS := hide hqS
 have HQE := hide hqE
 obtain ⟨aL, cL, q1, -⟩ := hqS _ HE5.out
 have hs10 := HS10.out
 have hwn : IntKind.i64.wrap ((c.S.length : Int) - 1) = (c.S.length : Int) - 1 := by rw [IntKind.wrap_i64]; omega
 clear hqS hqE hs10
 go_wp2_with fail
 clear q1 hwn
 go_loopw [10] (fun v10 wr => ∃ (r : Nat) (vS : Value), r ≤ c.S.length ∧ v10 = .int .i64 ((r : Int) - 1) ∧ Hid (BoxC wr b9 (cfS ce vS (c.S.drop r).reverse (.slice none 0 0) [])) ∧ Hid (wr.ownsRow W3.heap.size 38 7 vS (c.S.drop r).reverse.length ((c.S.drop r).reverse.flatMap encV)) ∧ Hid (Ext W3 wr)) (fun i _ => (intOf i + 1).toNat)
 case atStart => exact ⟨c.S.length, (.slice none 0 0), Nat.le_refl _, rfl, by show BoxC _ _ _; rw [List.drop_length]; exact HB5.out, by show World.ownsRow _ _ _ _ _ _ _; rw [List.drop_length]; exact World.ownsRow_nil _ _ _ _, HE5.out⟩
 case round =>
  clear HB5 HE5
  obtain ⟨r, vS, hr, rfl, hbx, how, hx⟩ := hrel
  generalize wr = wp at *
  have HXP := hide hx.out
  by_cases hr0 : 0 < r
  ·obtain ⟨m, rfl⟩ : ∃ m, r = m + 1 := ⟨r - 1, by omega⟩
   have hml : m < c.S.length := by omega
   have hge : ((m + 1 : Nat) : Int) - 1 = (m : Int) := by omega
   rw [hge]
   have hs10 := HS10.out
   have HMZ := hide (show (0 : Int) ≤ m ∧ (m : Int) < c.S.length from by omega)
   have HWM := hide (show IntKind.i64.wrap ((m : Int) - 1) = (m : Int) - 1 by rw [IntKind.wrap_i64]; omega)
   have hmge : (m : Int) ≥ 0 := by omega
   obtain ⟨aL, cS, q1, hsl⟩ := HQS.out _ HXP.out
   obtain ⟨bS, offS, rfl, hbS, hrS⟩ := svcs_at hsl m hml
   have hok := (HO8.out _ HXP.out).k _ (List.getElem_mem hml)
   obtain ⟨aK, cK, hvK⟩ := owns_shape hok
   have hdr := drop_rev c.S m hml
   obtain ⟨x, hx⟩ : ∃ x, c.S[m] = x := ⟨_, rfl⟩
   rw [hx] at hrS hvK hdr
   obtain ⟨xid, xkv, xK, xw, xs, xq, xb, xr⟩ := x
   simp only [] at hvK
   subst hvK
   have HDR := hide hdr
   have hdl : (c.S.drop (m + 1)).reverse.length ≤ 10 := by rw [List.length_reverse, List.length_drop]; omega
   obtain ⟨DS, hDS⟩ : ∃ DS, (c.S.drop (m + 1)).reverse = DS := ⟨_, rfl⟩
   rw [hDS] at hbx how HDR hdl
   obtain ⟨p, q, rfl⟩ := owns_shape how.out
   have HBX := hide hbx.out
   have HOW := hide how.out
   have HDL := hide hdl
   have HRS := hide (show ∀ X, Ext wp X → X.rangeAt bS (offS + m * 7) (encV (⟨xid, .slice aK xK.length cK, xK, xw, xs, xq, xb, xr⟩ : SvcD)) from fun X hX j v hv => (hX.cell (p := ⟨bS, offS + m * 7 + j, none⟩) (World.block_lt_of_cell? wp _ (hrS j v hv))).trans (hrS j v hv))
   obtain ⟨LL, hLL⟩ : ∃ LL, c.S = LL := ⟨_, rfl⟩
   have HQ1 := hide (show ∀ X, Ext wp X → X.cell? ⟨b8, 0, none⟩ = some (.slice (some ⟨bS, offS, none⟩) LL.length cS) from fun X hX => by rw [← hLL]; exact (hX.cell (p := ⟨b8, 0, none⟩) (World.block_lt_of_cell? wp _ q1)).trans q1)
   obtain ⟨iv, zv, hiv0, hiv1, hiv2, hiv3, hiv4⟩ := info_partsN Tryz.infoV
   rw [hLL] at HMZ
   clear hbx how hx hsl hrS hok hdr hdl hDS q1 hLL hs10 hge hml
   go_upto_region 10 with (fail)
   clear hmge
   refine wp_region_rw 152 [7, 8, 10] [42, 43, 44, 45, 46, 47, 48, 49, 50, 51] (PhAp encV 7 38 W3.heap.size b9 0 wp (.slice p DS.length q) DS.length DS (⟨xid, .slice aK xK.length cK, xK, xw, xs, xq, xb, xr⟩ : SvcD)) (fun (t : Nat) (wI : World) (v : Value) => match t with | 42 => v = (.pointer (some ⟨b9, 0, none⟩)) | 43 => v = (.slice p DS.length q) | 44 => v = (.pointer (some ⟨b8, 0, none⟩)) | 45 => v = (.slice (some ⟨bS, offS, none⟩) LL.length cS) | 46 => v = (.int .i64 (m : Int)) | 47 => v = (.pointer (some ⟨bS, offS + m * 7, none⟩)) | 48 => v = (.agg #[.int .i64 xid, .slice aK xK.length cK, .int .i64 xw, .int .i64 xs, .int .i64 xq, .int .i64 xb, .int .i64 xr]) | 51 => v = (.pointer (some ⟨b9, 0, none⟩)) | _ => True) (fun _ _ => True) (by kernel_rfl) rfl (by kernel_rfl) (by kernel_rfl) (by kernel_rfl) (by kernel_rfl) ?_ ?_ ?_ ?_ ?_ ?_ ?_
   ·intro w' w'' h
    trivial
   ·intro t w' w'' v hR hv
    exact hv
   ·intro vs w' w'' h e
    exact h.keep e
   ·exact (Below.refl _ _).drew
   ·intro i o ho hmi vs X w' hpk hph hX hI hF K hK
    have hin : i < 11 := (Array.getElem?_eq_some_iff.1 ho).1
    have hi : i = 0 ∨ i = 1 ∨ i = 2 ∨ i = 3 ∨ i = 4 ∨ i = 5 ∨ i = 6 ∨ i = 7 ∨ i = 8 ∨ i = 9 ∨ i = 10 := by omega
    rcases hi with rfl | rfl | rfl | rfl | rfl | rfl | rfl | rfl | rfl | rfl | rfl
    ·obtain rfl := Option.some.inj ho
     have e9 : X 9 = (.pointer (some ⟨b9, 0, none⟩)) := hF 9 (by omega) (by kernel_rfl)
     unfold wpOp
     simp only [ho]
     rw [if_pos (by rfl)]
     left
     rw [frame152]
     go_simp
     refine metK (hK.out ((.pointer (some ⟨b9, 0, none⟩))) _ (Below.refl _ _) (fun d hd => by cases hd; exact rfl)) ?_
     simp [frame152, Act.put, *]
    ·obtain rfl := Option.some.inj ho
     have e42 : X 42 = (.pointer (some ⟨b9, 0, none⟩)) := hI 42 (by kernel_rfl) (by kernel_rfl)
     have hx := hph.ext1 ((hpk 1 (by decide)).2 (by kernel_rfl))
     have q8 : w'.cell? ⟨b9, 0, none⟩ = some (.slice p DS.length q) := (HBX.out.ext hx).cell 0 _ rfl
     unfold wpOp
     simp only [ho]
     rw [if_pos (by rfl)]
     left
     rw [frame152]
     go_simp
     refine metK (hK.out ((.slice p DS.length q)) _ (Below.refl _ _) (fun d hd => by cases hd; exact rfl)) ?_
     simp [frame152, Act.put, *]
    ·obtain rfl := Option.some.inj ho
     have e8 : X 8 = (.pointer (some ⟨b8, 0, none⟩)) := hF 8 (by omega) (by kernel_rfl)
     unfold wpOp
     simp only [ho]
     rw [if_pos (by rfl)]
     left
     rw [frame152]
     go_simp
     refine metK (hK.out ((.pointer (some ⟨b8, 0, none⟩))) _ (Below.refl _ _) (fun d hd => by cases hd; exact rfl)) ?_
     simp [frame152, Act.put, *]
    ·obtain rfl := Option.some.inj ho
     have e44 : X 44 = (.pointer (some ⟨b8, 0, none⟩)) := hI 44 (by kernel_rfl) (by kernel_rfl)
     have hx := hph.ext1 (Nat.le_trans ((hpk 0 (by decide)).2 (by kernel_rfl)) (by decide))
     have q8 := HQ1.out w' hx
     unfold wpOp
     simp only [ho]
     rw [if_pos (by rfl)]
     left
     rw [frame152]
     go_simp
     refine metK (hK.out ((.slice (some ⟨bS, offS, none⟩) LL.length cS)) _ (Below.refl _ _) (fun d hd => by cases hd; exact rfl)) ?_
     simp [frame152, Act.put, *]
    ·obtain rfl := Option.some.inj ho
     have e10 : X 10 = (.int .i64 (m : Int)) := hF 10 (by omega) (by kernel_rfl)
     unfold wpOp
     simp only [ho]
     rw [if_pos (by rfl)]
     left
     rw [frame152]
     go_simp
     refine metK (hK.out ((.int .i64 (m : Int))) _ (Below.refl _ _) (fun d hd => by cases hd; exact rfl)) ?_
     simp [frame152, Act.put, *]
    ·obtain rfl := Option.some.inj ho
     have e45 : X 45 = (.slice (some ⟨bS, offS, none⟩) LL.length cS) := hI 45 (by kernel_rfl) (by kernel_rfl)
     have e46 : X 46 = (.int .i64 (m : Int)) := hI 46 (by kernel_rfl) (by kernel_rfl)
     have hz0 := HMZ.out.1
     have hz1 := HMZ.out.2
     unfold wpOp
     simp only [ho]
     rw [if_pos (by rfl)]
     left
     rw [frame152]
     go_simp
     refine metK (hK.out ((.pointer (some ⟨bS, offS + m * 7, none⟩))) _ (Below.refl _ _) (fun d hd => by cases hd; exact rfl)) ?_
     simp [frame152, Act.put, *]
    ·obtain rfl := Option.some.inj ho
     have e47 : X 47 = (.pointer (some ⟨bS, offS + m * 7, none⟩)) := hI 47 (by kernel_rfl) (by kernel_rfl)
     have hx := hph.ext1 (Nat.le_trans ((hpk 0 (by decide)).2 (by kernel_rfl)) (by decide))
     unfold wpOp
     simp only [ho]
     rw [if_pos (by rfl)]
     left
     rw [frame152]
     refine wp_load_mid 38 (.tmp 47) rfl bS (offS + m * 7) e47 (encV (⟨xid, .slice aK xK.length cK, xK, xw, xs, xq, xb, xr⟩ : SvcD)) dv (HRS.out w' hx) hdv1 hdv2 Tryz.svcSize (metK (hK.out (.agg #[.int .i64 xid, .slice aK xK.length cK, .int .i64 xw, .int .i64 xs, .int .i64 xq, .int .i64 xb, .int .i64 xr]) _ (Below.refl _ _) (fun d hd => by cases hd; exact rfl)) ?_)
     rfl
    ·exact absurd hmi (by decide)
    ·exact absurd hmi (by decide)
    ·obtain rfl := Option.some.inj ho
     have e9 : X 9 = (.pointer (some ⟨b9, 0, none⟩)) := hF 9 (by omega) (by kernel_rfl)
     unfold wpOp
     simp only [ho]
     rw [if_pos (by rfl)]
     left
     rw [frame152]
     go_simp
     refine metK (hK.out ((.pointer (some ⟨b9, 0, none⟩))) _ (Below.refl _ _) (fun d hd => by cases hd; exact rfl)) ?_
     simp [frame152, Act.put, *]
    ·exact absurd hmi (by decide)
   ·intro i o ho hmi vs X w' hqi hql hph hX hI hF K hK
    rcases vs with _ | ⟨v0, _ | ⟨v1, _ | ⟨v2, _⟩⟩⟩
    ·obtain rfl : 7 = i := hqi
     obtain rfl := Option.some.inj ho
     have e48 : X 48 = (.agg #[.int .i64 xid, .slice aK xK.length cK, .int .i64 xw, .int .i64 xs, .int .i64 xq, .int .i64 xb, .int .i64 xr]) := hI 48 (by kernel_rfl) (by kernel_rfl)
     have hx : Ext wp w' := hph
     unfold wpOp
     simp only [ho]
     rw [if_pos (by rfl)]
     left
     rw [frame152]
     go_simp
     refine metK (hK.out (.slice (some ⟨w'.heap.size, 0, none⟩) 1 1) _ ⟨Ext.trans hx ((Below.refl _ w').alloc (Nat.le_refl _) _), sl_new1 encV_len w' (⟨xid, .slice aK xK.length cK, xK, xw, xs, xq, xb, xr⟩ : SvcD) 38 _ rfl⟩ trivial) ?_
     simp [frame152, Act.put, *]
    ·obtain rfl : 8 = i := hqi
     obtain rfl := Option.some.inj ho
     have e43 : X 43 = (.slice p DS.length q) := hI 43 (by kernel_rfl) (by kernel_rfl)
     have e49 : X 49 = v0 := hX 0 49 (by simp) (by kernel_rfl)
     obtain ⟨hx, hsl⟩ := hph
     unfold wpOp
     simp only [ho]
     rw [if_pos (by rfl)]
     left
     rw [frame152]
     refine wp_append_sl (enc := encV) _ _ _ rfl W3.heap.size 38 iv zv 7 72 Tryz.underlying23 hiv0 hiv1 hiv2 hiv3 hiv4 (by decide) encV_len (.slice p DS.length q) DS.length (DS.flatMap encV) e43 (owns_ext HOW.out hx) _ e49 [(⟨xid, .slice aK xK.length cK, xK, xw, xs, xq, xb, xr⟩ : SvcD)] hsl (fun x hx => by rw [List.mem_singleton.1 hx]; exact encV_one ⟨_, _, _, rfl⟩) (by unfold maxLen; have := HDL.out; simp; omega) (by have := HDL.out; simp; omega) (Nat.le_trans HXP.out.size hx.size) ?_
     intro v' w'' ho hg
     obtain ⟨p', q', rfl⟩ := owns_shape ho
     have hk : Keeps (fun g => Value.ownBlock (.slice p DS.length q) = some g) w' w'' := Keeps.of_grown hg (fun g h => h)
     refine metK (hK.out (.slice p' (DS.length + 1) q') w'' ⟨p', q', rfl, by simpa using ho, (Keeps.of_ext hx).trans hk⟩ trivial) ?_
     simp [frame152, Act.put, *]
    ·obtain rfl : 10 = i := hqi
     obtain rfl := Option.some.inj ho
     have e50 : X 50 = v1 := hX 1 50 (by simp) (by kernel_rfl)
     have e51 : X 51 = (.pointer (some ⟨b9, 0, none⟩)) := hI 51 (by kernel_rfl) (by kernel_rfl)
     obtain ⟨p', q', rfl, hwn, hk⟩ := hph
     have hne0 : ¬ Value.ownBlock (.slice p DS.length q) = some b9 := fun e => absurd (owns_type HOW.out e HBX.out) (by decide)
     have hb0 : BoxC w' b9 (cfS ce (.slice p DS.length q) DS (.slice none 0 0) []) := (hk.block _ HBX.out.lt hne0).trans HBX.out
     have c0 : w'.cell? ⟨b9, 0, none⟩ = some (.slice p DS.length q) := hb0.cell 0 _ rfl
     have z0 := hb0.frozen 0
     unfold wpOp
     simp only [ho]
     rw [if_pos (by rfl)]
     left
     rw [frame152]
     go_simp
     refine metK (hK.out undef _ ⟨w', hwn, hk, Below.refl _ _⟩ trivial) ?_
     simp [frame152, Act.put, *]
    ·simp at hql <;> omega
   ·intro vs X w' hlen hph hX hI
    have e42 : X 42 = (.pointer (some ⟨b9, 0, none⟩)) := hI 42 (by omega) (by kernel_rfl) (by kernel_rfl)
    have e43 : X 43 = (.slice p DS.length q) := hI 43 (by omega) (by kernel_rfl) (by kernel_rfl)
    have e44 : X 44 = (.pointer (some ⟨b8, 0, none⟩)) := hI 44 (by omega) (by kernel_rfl) (by kernel_rfl)
    have e45 : X 45 = (.slice (some ⟨bS, offS, none⟩) LL.length cS) := hI 45 (by omega) (by kernel_rfl) (by kernel_rfl)
    have e46 : X 46 = (.int .i64 (m : Int)) := hI 46 (by omega) (by kernel_rfl) (by kernel_rfl)
    have e47 : X 47 = (.pointer (some ⟨bS, offS + m * 7, none⟩)) := hI 47 (by omega) (by kernel_rfl) (by kernel_rfl)
    have e48 : X 48 = (.agg #[.int .i64 xid, .slice aK xK.length cK, .int .i64 xw, .int .i64 xs, .int .i64 xq, .int .i64 xb, .int .i64 xr]) := hI 48 (by omega) (by kernel_rfl) (by kernel_rfl)
    have e51 : X 51 = (.pointer (some ⟨b9, 0, none⟩)) := hI 51 (by omega) (by kernel_rfl) (by kernel_rfl)
    rcases vs with _ | ⟨v0, _ | ⟨v1, _ | ⟨v2, _ | ⟨vz, vs⟩⟩⟩⟩
    ·simp at hlen
    ·simp at hlen
    ·simp at hlen
    rotate_left
    ·simp at hlen
    have e49 : X 49 = v0 := hX 0 49 (by simp) (by kernel_rfl)
    have e50 : X 50 = v1 := hX 1 50 (by simp) (by kernel_rfl)
    clear hX hI hlen
    simp only [overF, List.foldl_cons, List.foldl_nil, List.setIfInBounds_toArray, List.set_cons_succ, List.set_cons_zero, e42, e43, e44, e45, e46, e47, e48, e49, e50, e51]
    obtain ⟨w1, hwn, hk, hE9⟩ := hph
    have hne0 : ¬ Value.ownBlock (.slice p DS.length q) = some b9 := fun e => absurd (owns_type HOW.out e HBX.out) (by decide)
    have hb0 : BoxC w1 b9 (cfS ce (.slice p DS.length q) DS (.slice none 0 0) []) := (hk.block _ HBX.out.lt hne0).trans HBX.out
    have hbn := ((hb0.set (c' := cfS ce v1 (DS ++ [(⟨xid, .slice aK xK.length cK, xK, xw, xs, xq, xb, xr⟩ : SvcD)]) (.slice none 0 0) []) 0 v1 rfl)).ext hE9
    have hks := Keeps.of_set (X := fun g => g = b9) w1 b9 0 v1 rfl
    have hon := owns_ext (owns_keepT hwn hks (OfT.one hb0) (by decide)) hE9
    have hex : Ext W3 w' := (Keeps.ext (Keeps.ext HXP.out hk (fun g hg => (HOW.out.lt g hg).1)) hks (fun g hg => by omega)).trans hE9
    have hwm := HWM.out
    have hdr := HDR.out
    clear hb0 hne0 hks hwn hk hE9 e42 e43 e44 e45 e46 e47 e48 e51
    go_wp2
    go_roundw
    case rel => exact ⟨m, v1, by omega, by first | rfl | simp, by show BoxC _ _ _; rw [hdr]; exact hbn, by show World.ownsRow _ _ _ _ _ _ _; rw [hdr, List.length_append, List.flatMap_append]; simpa using hon, hex⟩
    case measure => simp [intOf] <;> omega
  ·have hr00 : r = 0 := by omega
   obtain ⟨j, hj⟩ : ∃ j : Int, (r : Int) - 1 = j := ⟨_, rfl⟩
   have hjn : ¬ j ≥ 0 := by omega
   rw [hj]
   subst hr00
   rw [List.drop_zero] at hbx how
   obtain ⟨aS, cS, hvS⟩ := owns_shape how.out
   have HBX := hide hbx.out
   have HSR := hide how.out
   clear hbx how hx hj hvS
   obtain ⟨aL, cL, q1, -⟩ := HQE.out _ HXP.out
   have hs10 := HE10.out
   have hwn : IntKind.i64.wrap ((c.E.length : Int) - 1) = (c.E.length : Int) - 1 := by rw [IntKind.wrap_i64]; omega
   clear hs10
   go_wp2_with fail
   clear q1 hwn hjn
   generalize wp = W6 at *
   go_loopw [11] (fun v11 wr => ∃ (r : Nat) (vE : Value), r ≤ c.E.length ∧ v11 = .int .i64 ((r : Int) - 1) ∧ Hid (BoxC wr b9 (cfS ce vS c.S.reverse vE (c.E.drop r).reverse)) ∧ Hid (wr.ownsRow W3.heap.size 40 3 vE (c.E.drop r).reverse.length ((c.E.drop r).reverse.flatMap encE)) ∧ Hid (wr.ownsRow W3.heap.size 38 7 vS c.S.reverse.length (c.S.reverse.flatMap encV)) ∧ Hid (Ext W3 wr)) (fun i _ => (intOf i + 1).toNat)
   case atStart => exact ⟨c.E.length, (.slice none 0 0), Nat.le_refl _, rfl, by show BoxC _ _ _; rw [List.drop_length]; exact HBX.out, by show World.ownsRow _ _ _ _ _ _ _; rw [List.drop_length]; exact World.ownsRow_nil _ _ _ _, HSR.out, HXP.out⟩
   case round =>
    clear HBX HSR HXP
    obtain ⟨r, vE, hr, rfl, hbx, how, hsr, hx⟩ := hrel
    generalize wr = wp at *
    have HXP := hide hx.out
    have HSR := hide hsr.out
    clear hsr
    by_cases hr0 : 0 < r
    ·obtain ⟨m, rfl⟩ : ∃ m, r = m + 1 := ⟨r - 1, by omega⟩
     have hml : m < c.E.length := by omega
     have hge : ((m + 1 : Nat) : Int) - 1 = (m : Int) := by omega
     rw [hge]
     have hs10 := HE10.out
     have HMZ := hide (show (0 : Int) ≤ m ∧ (m : Int) < c.E.length from by omega)
     have HWM := hide (show IntKind.i64.wrap ((m : Int) - 1) = (m : Int) - 1 by rw [IntKind.wrap_i64]; omega)
     have hmge : (m : Int) ≥ 0 := by omega
     obtain ⟨aL, cS, q1, hsl⟩ := HQE.out _ HXP.out
     obtain ⟨bS, offS, rfl, hbS, c1, c2, c3⟩ := ends_at hsl m hml
     have hdr := drop_rev c.E m hml
     obtain ⟨x, hx⟩ : ∃ x, c.E[m] = x := ⟨_, rfl⟩
     rw [hx] at c1 c2 c3 hdr
     obtain ⟨x1, x2, x3⟩ := x
     simp only [] at c1 c2 c3
     have HDR := hide hdr
     have hdl : (c.E.drop (m + 1)).reverse.length ≤ 10 := by rw [List.length_reverse, List.length_drop]; omega
     obtain ⟨DS, hDS⟩ : ∃ DS, (c.E.drop (m + 1)).reverse = DS := ⟨_, rfl⟩
     rw [hDS] at hbx how HDR hdl
     obtain ⟨p, q, rfl⟩ := owns_shape how.out
     have HBX := hide hbx.out
     have HOW := hide how.out
     have HDL := hide hdl
     have HRS := hide (show ∀ X, Ext wp X → X.cell? ⟨bS, offS + m * 3, none⟩ = some (.int .i64 x1) ∧ X.cell? ⟨bS, offS + m * 3 + 1, none⟩ = some (.int .i64 x2) ∧ X.cell? ⟨bS, offS + m * 3 + 2, none⟩ = some (.int .i64 x3) from fun X hX => ⟨(hX.cell (p := ⟨bS, offS + m * 3, none⟩) (World.block_lt_of_cell? wp _ c1)).trans c1, (hX.cell (p := ⟨bS, offS + m * 3 + 1, none⟩) (World.block_lt_of_cell? wp _ c2)).trans c2, (hX.cell (p := ⟨bS, offS + m * 3 + 2, none⟩) (World.block_lt_of_cell? wp _ c3)).trans c3⟩)
     obtain ⟨LL, hLL⟩ : ∃ LL, c.E = LL := ⟨_, rfl⟩
     have HQ1 := hide (show ∀ X, Ext wp X → X.cell? ⟨b8, 1, none⟩ = some (.slice (some ⟨bS, offS, none⟩) LL.length cS) from fun X hX => by rw [← hLL]; exact (hX.cell (p := ⟨b8, 1, none⟩) (World.block_lt_of_cell? wp _ q1)).trans q1)
     obtain ⟨iv, zv, hiv0, hiv1, hiv2, hiv3, hiv4⟩ := info_partsN Tryz.infoE
     rw [hLL] at HMZ
     clear hbx how hx hsl c1 c2 c3 hdr hdl hDS q1 hLL hs10 hge hml
     go_upto_region 14 with (fail)
     clear hmge
     refine wp_region_rw 152 [7, 8, 10] [60, 61, 62, 63, 64, 65, 66, 67, 68, 69] (PhAp encE 3 40 W3.heap.size b9 1 wp (.slice p DS.length q) DS.length DS (⟨x1, x2, x3⟩ : EndD)) (fun (t : Nat) (wI : World) (v : Value) => match t with | 60 => v = (.pointer (some ⟨b9, 1, none⟩)) | 61 => v = (.slice p DS.length q) | 62 => v = (.pointer (some ⟨b8, 1, none⟩)) | 63 => v = (.slice (some ⟨bS, offS, none⟩) LL.length cS) | 64 => v = (.int .i64 (m : Int)) | 65 => v = (.pointer (some ⟨bS, offS + m * 3, none⟩)) | 66 => v = (.agg #[.int .i64 x1, .int .i64 x2, .int .i64 x3]) | 69 => v = (.pointer (some ⟨b9, 1, none⟩)) | _ => True) (fun _ _ => True) (by kernel_rfl) rfl (by kernel_rfl) (by kernel_rfl) (by kernel_rfl) (by kernel_rfl) ?_ ?_ ?_ ?_ ?_ ?_ ?_
     ·intro w' w'' h
      trivial
     ·intro t w' w'' v hR hv
      exact hv
     ·intro vs w' w'' h e
      exact h.keep e
     ·exact (Below.refl _ _).drew
     ·intro i o ho hmi vs X w' hpk hph hX hI hF K hK
      have hin : i < 11 := (Array.getElem?_eq_some_iff.1 ho).1
      have hi : i = 0 ∨ i = 1 ∨ i = 2 ∨ i = 3 ∨ i = 4 ∨ i = 5 ∨ i = 6 ∨ i = 7 ∨ i = 8 ∨ i = 9 ∨ i = 10 := by omega
      rcases hi with rfl | rfl | rfl | rfl | rfl | rfl | rfl | rfl | rfl | rfl | rfl
      ·obtain rfl := Option.some.inj ho
       have e9 : X 9 = (.pointer (some ⟨b9, 0, none⟩)) := hF 9 (by omega) (by kernel_rfl)
       unfold wpOp
       simp only [ho]
       rw [if_pos (by rfl)]
       left
       rw [frame152]
       go_simp
       refine metK (hK.out ((.pointer (some ⟨b9, 1, none⟩))) _ (Below.refl _ _) (fun d hd => by cases hd; exact rfl)) ?_
       simp [frame152, Act.put, *]
      ·obtain rfl := Option.some.inj ho
       have e60 : X 60 = (.pointer (some ⟨b9, 1, none⟩)) := hI 60 (by kernel_rfl) (by kernel_rfl)
       have hx := hph.ext1 ((hpk 1 (by decide)).2 (by kernel_rfl))
       have q8 : w'.cell? ⟨b9, 1, none⟩ = some (.slice p DS.length q) := (HBX.out.ext hx).cell 1 _ rfl
       unfold wpOp
       simp only [ho]
       rw [if_pos (by rfl)]
       left
       rw [frame152]
       go_simp
       refine metK (hK.out ((.slice p DS.length q)) _ (Below.refl _ _) (fun d hd => by cases hd; exact rfl)) ?_
       simp [frame152, Act.put, *]
      ·obtain rfl := Option.some.inj ho
       have e8 : X 8 = (.pointer (some ⟨b8, 0, none⟩)) := hF 8 (by omega) (by kernel_rfl)
       unfold wpOp
       simp only [ho]
       rw [if_pos (by rfl)]
       left
       rw [frame152]
       go_simp
       refine metK (hK.out ((.pointer (some ⟨b8, 1, none⟩))) _ (Below.refl _ _) (fun d hd => by cases hd; exact rfl)) ?_
       simp [frame152, Act.put, *]
      ·obtain rfl := Option.some.inj ho
       have e62 : X 62 = (.pointer (some ⟨b8, 1, none⟩)) := hI 62 (by kernel_rfl) (by kernel_rfl)
       have hx := hph.ext1 (Nat.le_trans ((hpk 0 (by decide)).2 (by kernel_rfl)) (by decide))
       have q8 := HQ1.out w' hx
       unfold wpOp
       simp only [ho]
       rw [if_pos (by rfl)]
       left
       rw [frame152]
       go_simp
       refine metK (hK.out ((.slice (some ⟨bS, offS, none⟩) LL.length cS)) _ (Below.refl _ _) (fun d hd => by cases hd; exact rfl)) ?_
       simp [frame152, Act.put, *]
      ·obtain rfl := Option.some.inj ho
       have e11 : X 11 = (.int .i64 (m : Int)) := hF 11 (by omega) (by kernel_rfl)
       unfold wpOp
       simp only [ho]
       rw [if_pos (by rfl)]
       left
       rw [frame152]
       go_simp
       refine metK (hK.out ((.int .i64 (m : Int))) _ (Below.refl _ _) (fun d hd => by cases hd; exact rfl)) ?_
       simp [frame152, Act.put, *]
      ·obtain rfl := Option.some.inj ho
       have e63 : X 63 = (.slice (some ⟨bS, offS, none⟩) LL.length cS) := hI 63 (by kernel_rfl) (by kernel_rfl)
       have e64 : X 64 = (.int .i64 (m : Int)) := hI 64 (by kernel_rfl) (by kernel_rfl)
       have hz0 := HMZ.out.1
       have hz1 := HMZ.out.2
       unfold wpOp
       simp only [ho]
       rw [if_pos (by rfl)]
       left
       rw [frame152]
       go_simp
       refine metK (hK.out ((.pointer (some ⟨bS, offS + m * 3, none⟩))) _ (Below.refl _ _) (fun d hd => by cases hd; exact rfl)) ?_
       simp [frame152, Act.put, *]
      ·obtain rfl := Option.some.inj ho
       have e65 : X 65 = (.pointer (some ⟨bS, offS + m * 3, none⟩)) := hI 65 (by kernel_rfl) (by kernel_rfl)
       have hx := hph.ext1 (Nat.le_trans ((hpk 0 (by decide)).2 (by kernel_rfl)) (by decide))
       obtain ⟨g1, g2, g3⟩ := HRS.out w' hx
       unfold wpOp
       simp only [ho]
       rw [if_pos (by rfl)]
       left
       rw [frame152]
       go_simp
       refine metK (hK.out (.agg #[.int .i64 x1, .int .i64 x2, .int .i64 x3]) _ (Below.refl _ _) (fun d hd => by cases hd; exact rfl)) ?_
       simp [frame152, Act.put, *]
      ·exact absurd hmi (by decide)
      ·exact absurd hmi (by decide)
      ·obtain rfl := Option.some.inj ho
       have e9 : X 9 = (.pointer (some ⟨b9, 0, none⟩)) := hF 9 (by omega) (by kernel_rfl)
       unfold wpOp
       simp only [ho]
       rw [if_pos (by rfl)]
       left
       rw [frame152]
       go_simp
       refine metK (hK.out ((.pointer (some ⟨b9, 1, none⟩))) _ (Below.refl _ _) (fun d hd => by cases hd; exact rfl)) ?_
       simp [frame152, Act.put, *]
      ·exact absurd hmi (by decide)
     ·intro i o ho hmi vs X w' hqi hql hph hX hI hF K hK
      rcases vs with _ | ⟨v0, _ | ⟨v1, _ | ⟨v2, _⟩⟩⟩
      ·obtain rfl : 7 = i := hqi
       obtain rfl := Option.some.inj ho
       have e66 : X 66 = (.agg #[.int .i64 x1, .int .i64 x2, .int .i64 x3]) := hI 66 (by kernel_rfl) (by kernel_rfl)
       have hx : Ext wp w' := hph
       unfold wpOp
       simp only [ho]
       rw [if_pos (by rfl)]
       left
       rw [frame152]
       go_simp
       refine metK (hK.out (.slice (some ⟨w'.heap.size, 0, none⟩) 1 1) _ ⟨Ext.trans hx ((Below.refl _ w').alloc (Nat.le_refl _) _), sl_new1 encE_len w' (⟨x1, x2, x3⟩ : EndD) 40 _ rfl⟩ trivial) ?_
       simp [frame152, Act.put, *]
      ·obtain rfl : 8 = i := hqi
       obtain rfl := Option.some.inj ho
       have e61 : X 61 = (.slice p DS.length q) := hI 61 (by kernel_rfl) (by kernel_rfl)
       have e67 : X 67 = v0 := hX 0 67 (by simp) (by kernel_rfl)
       obtain ⟨hx, hsl⟩ := hph
       unfold wpOp
       simp only [ho]
       rw [if_pos (by rfl)]
       left
       rw [frame152]
       refine wp_append_sl (enc := encE) _ _ _ rfl W3.heap.size 40 iv zv 3 24 Tryz.underlying24 hiv0 hiv1 hiv2 hiv3 hiv4 (by decide) encE_len (.slice p DS.length q) DS.length (DS.flatMap encE) e61 (owns_ext HOW.out hx) _ e67 [(⟨x1, x2, x3⟩ : EndD)] hsl (fun x hx => by rw [List.mem_singleton.1 hx]; exact encE_one3 (⟨x1, x2, x3⟩ : EndD)) (by unfold maxLen; have := HDL.out; simp; omega) (by have := HDL.out; simp; omega) (Nat.le_trans HXP.out.size hx.size) ?_
       intro v' w'' ho hg
       obtain ⟨p', q', rfl⟩ := owns_shape ho
       have hk : Keeps (fun g => Value.ownBlock (.slice p DS.length q) = some g) w' w'' := Keeps.of_grown hg (fun g h => h)
       refine metK (hK.out (.slice p' (DS.length + 1) q') w'' ⟨p', q', rfl, by simpa using ho, (Keeps.of_ext hx).trans hk⟩ trivial) ?_
       simp [frame152, Act.put, *]
      ·obtain rfl : 10 = i := hqi
       obtain rfl := Option.some.inj ho
       have e68 : X 68 = v1 := hX 1 68 (by simp) (by kernel_rfl)
       have e69 : X 69 = (.pointer (some ⟨b9, 1, none⟩)) := hI 69 (by kernel_rfl) (by kernel_rfl)
       obtain ⟨p', q', rfl, hwn, hk⟩ := hph
       have hne0 : ¬ Value.ownBlock (.slice p DS.length q) = some b9 := fun e => absurd (owns_type HOW.out e HBX.out) (by decide)
       have hb0 : BoxC w' b9 (cfS ce vS c.S.reverse (.slice p DS.length q) DS) := (hk.block _ HBX.out.lt hne0).trans HBX.out
       have c0 : w'.cell? ⟨b9, 1, none⟩ = some (.slice p DS.length q) := hb0.cell 1 _ rfl
       have z0 := hb0.frozen 1
       unfold wpOp
       simp only [ho]
       rw [if_pos (by rfl)]
       left
       rw [frame152]
       go_simp
       refine metK (hK.out undef _ ⟨w', hwn, hk, Below.refl _ _⟩ trivial) ?_
       simp [frame152, Act.put, *]
      ·simp at hql <;> omega
     ·intro vs X w' hlen hph hX hI
      have e60 : X 60 = (.pointer (some ⟨b9, 1, none⟩)) := hI 60 (by omega) (by kernel_rfl) (by kernel_rfl)
      have e61 : X 61 = (.slice p DS.length q) := hI 61 (by omega) (by kernel_rfl) (by kernel_rfl)
      have e62 : X 62 = (.pointer (some ⟨b8, 1, none⟩)) := hI 62 (by omega) (by kernel_rfl) (by kernel_rfl)
      have e63 : X 63 = (.slice (some ⟨bS, offS, none⟩) LL.length cS) := hI 63 (by omega) (by kernel_rfl) (by kernel_rfl)
      have e64 : X 64 = (.int .i64 (m : Int)) := hI 64 (by omega) (by kernel_rfl) (by kernel_rfl)
      have e65 : X 65 = (.pointer (some ⟨bS, offS + m * 3, none⟩)) := hI 65 (by omega) (by kernel_rfl) (by kernel_rfl)
      have e66 : X 66 = (.agg #[.int .i64 x1, .int .i64 x2, .int .i64 x3]) := hI 66 (by omega) (by kernel_rfl) (by kernel_rfl)
      have e69 : X 69 = (.pointer (some ⟨b9, 1, none⟩)) := hI 69 (by omega) (by kernel_rfl) (by kernel_rfl)
      rcases vs with _ | ⟨v0, _ | ⟨v1, _ | ⟨v2, _ | ⟨vz, vs⟩⟩⟩⟩
      ·simp at hlen
      ·simp at hlen
      ·simp at hlen
      rotate_left
      ·simp at hlen
      have e67 : X 67 = v0 := hX 0 67 (by simp) (by kernel_rfl)
      have e68 : X 68 = v1 := hX 1 68 (by simp) (by kernel_rfl)
      clear hX hI hlen
      simp only [overF, List.foldl_cons, List.foldl_nil, List.setIfInBounds_toArray, List.set_cons_succ, List.set_cons_zero, e60, e61, e62, e63, e64, e65, e66, e67, e68, e69]
      obtain ⟨w1, hwn, hk, hE9⟩ := hph
      have hne0 : ¬ Value.ownBlock (.slice p DS.length q) = some b9 := fun e => absurd (owns_type HOW.out e HBX.out) (by decide)
      have hb0 : BoxC w1 b9 (cfS ce vS c.S.reverse (.slice p DS.length q) DS) := (hk.block _ HBX.out.lt hne0).trans HBX.out
      have hbn := ((hb0.set (c' := cfS ce vS c.S.reverse v1 (DS ++ [(⟨x1, x2, x3⟩ : EndD)])) 1 v1 rfl)).ext hE9
      have hks := Keeps.of_set (X := fun g => g = b9) w1 b9 1 v1 rfl
      have hon := owns_ext (owns_keepT hwn hks (OfT.one hb0) (by decide)) hE9
      have hex : Ext W3 w' := (Keeps.ext (Keeps.ext HXP.out hk (fun g hg => (HOW.out.lt g hg).1)) hks (fun g hg => by omega)).trans hE9
      have hwm := HWM.out
      have hdr := HDR.out
      have hvi : ∀ g, Value.ownBlock vS = some g → ¬ Value.ownBlock (.slice p DS.length q) = some g := fun g h1 h2 => owns_ne HOW.out HSR.out (by decide) g h2 h1
      have hsr := owns_ext (owns_keepT (owns_keeps HSR.out hk hvi) hks (OfT.one hb0) (by decide)) hE9
      clear hb0 hne0 hks hwn hk hE9 hvi e60 e61 e62 e63 e64 e65 e66 e69
      go_wp2
      go_roundw
      case rel => exact ⟨m, v1, by omega, by first | rfl | simp, by show BoxC _ _ _; rw [hdr]; exact hbn, by show World.ownsRow _ _ _ _ _ _ _; rw [hdr, List.length_append, List.flatMap_append]; simpa using hon, hsr, hex⟩
      case measure => simp [intOf] <;> omega
    ·have hr00 : r = 0 := by omega
     obtain ⟨j, hj⟩ : ∃ j : Int, (r : Int) - 1 = j := ⟨_, rfl⟩
     have hjn : ¬ j ≥ 0 := by omega
     rw [hj]
     subst hr00
     rw [List.drop_zero] at hbx how
     have HZS := hide HXW.out.size
     have hown : ConfOwn w.heap.size wp (cfS ce vS c.S.reverse vE c.E.reverse) := ⟨owns_mono HSR.out HZS.out, fun s hs => (HO8.out _ HXP.out).k s (List.mem_reverse.1 hs), owns_mono how.out HZS.out, (HOE.out _ HXP.out).r, (HOE.out _ HXP.out).rr, (HOE.out _ HXP.out).t⟩
     have hright := turned_right HCO.out HCR.out vS vE
     have hfit := turned_fit HFT.out HFE.out vS vE
     have hcore := turned_core HCO.out vS vE c.S.reverse c.E.reverse
     have hbx' := hbx.out
     have hfew : (cfS ce vS c.S.reverse vE c.E.reverse).E.length ≤ 19 := by
      show c.E.reverse.length ≤ 19
      rw [List.length_reverse]
      exact Nat.le_trans HE10.out (by decide)
     obtain ⟨dn, hdn⟩ : ∃ dn, cfS ce vS c.S.reverse vE c.E.reverse = dn := ⟨_, rfl⟩
     rw [hdn] at hown hright hfit hcore hbx' hfew
     have HBN := hide hbx'
     have HON := hide hown
     have HRN := hide hright
     have HFN := hide hfit
     have HKN := hide hcore
     have HFW := hide hfew
     clear hbx how hx hown hright hfit hcore hbx' hdn HSR hfew
     generalize wp = W7 at *
     go_upto_region 15 with (fail)
     refine wp_region_lit ?_
     refine wpList_load_mid rfl 30 (.tmp 9) rfl b9 0 rfl (encC dn) cd (HBN.out).range hcd1 hcd2 Tryz.confSize ?_
     simp only [Act.put]
     go_wp2_with fail
     refine (mnew_any 3 w.heap.size dn W7 (HM.out.ext (HXW.out.trans HXP.out)) (HXW.out.trans HXP.out).size (HON.out) (HFN.out) (HFW.out)).mono ?_
     rintro e W8 ⟨E6, ⟨hne, -⟩ | ⟨-, bb, rfl, hsa⟩⟩
     ·exact absurd (HRN.out) hne
     have E78 := hide E6
     have SB := hide hsa
     clear E6 hsa
     have HX8 := hide (HXP.out.trans E78.out)
     obtain ⟨d, bt, bs, br, nb, Rs, g, sa, hca⟩ := HSA.out _ HX8.out
     obtain ⟨e, et, es, er, nb2, Rt, g2, sb, hcb⟩ := SB.out
     have hs1 := core_S hca
     have he1 := core_E hca
     have hs2 := (core_S hcb).trans (core_S HKN.out)
     have he2 := (core_E hcb).trans (core_E HKN.out)
     have IA := hide sa
     have IB := hide sb
     have hns := svcs_nodup (chkC_ends HCR.out).2.2.2.1
     have hne := ends_nodup (chkC_ends HCR.out).2.2.2.2.1
     have hzb := around_bd id 6 (by omega)
     obtain ⟨z, hz⟩ : ∃ z, around id 6 = z := ⟨_, rfl⟩
     rw [hz] at hzb
     have HZZ := hide hz
     have HI := hide (show I64 z by constructor <;> omega)
     have htb : thereB e.S z = thereB d.S z := by
      rw [core_there hs2 z, core_there hs1 z]
      exact thereB_perm (List.reverse_perm _) z
     have hsv : (svcAt d.S z).core = (svcAt e.S z).core := by
      rw [core_svcAt hs1 z, core_svcAt hs2 z]
      show _ = (svcAt c.S.reverse z).core
      rw [svcAt_perm (List.reverse_perm _) hns z]
     have hee : e.E = c.E.reverse := he2
     have hen : endsAt e.E z = endsAt d.E z := by
      rw [hee, he1]
      exact endsAt_perm (List.reverse_perm _) hne z
     have hc1 : cameE d.E e.E = [] := by
      rw [hee, he1]
      exact cameE_perm (List.reverse_perm _)
     have hc2 : cameE e.E d.E = [] := by
      rw [hee, he1]
      exact cameE_perm (List.reverse_perm _).symm
     have hids : idsAt e.E z = idsAt d.E z := by unfold idsAt; rw [hen]
     obtain ⟨tb, htt⟩ : ∃ tb, thereB d.S z = tb := ⟨_, rfl⟩
     rw [htt] at htb
     obtain ⟨sv, hsve⟩ : ∃ sv, svcAt d.S z = sv := ⟨_, rfl⟩
     obtain ⟨rv, hrve⟩ : ∃ rv, svcAt e.S z = rv := ⟨_, rfl⟩
     rw [hsve, hrve] at hsv
     obtain ⟨T, hT⟩ : ∃ T, endsAt d.E z = T := ⟨_, rfl⟩
     rw [hT] at hen
     have HC1 := hide hc1
     have HC2 := hide hc2
     have HIDS := hide hids
     have HTT := hide htt
     have HTB := hide htb
     have HSVE := hide hsve
     have HRVE := hide hrve
     have HSVC := hide hsv
     have HT1 := hide hT
     have HT2 := hide hen
     have HND := hide (show (d.E.map EndD.id).Nodup from sa.nodup)
     have HNE := hide (show (e.E.map EndD.id).Nodup from sb.nodup)
     clear sa sb hca hcb hs1 he1 hs2 he2 hns hne hzb hz htb hsv hee hen hc1 hc2 hids htt hsve hrve hT HSA SB
     go_wp2_with fail
     refine (around_any id 6 W8 HID.out (by omega)).mono ?_
     rintro e9 w9 ⟨rfl, rfl⟩
     rw [HZZ.out]
     go_wp2_with fail
     refine (mservice_any z W8 IA.out HI.out).mono ?_
     rintro e9 w10 ⟨kv, rfl, hkv, E10⟩
     rw [HTT.out, HSVE.out]
     rw [HSVE.out] at hkv
     obtain ⟨ak, ck, rfl⟩ := owns_shape hkv
     obtain ⟨sid, skv, sK, swork, sslots, squeue, sbal, swarm⟩ := sv
     simp only [] at hkv
     simp only [SvcD.val]
     have hx11 : Ext w10 (w10.alloc (.cells #[.int .i64 sid, .slice ak sK.length ck, .int .i64 swork, .int .i64 sslots, .int .i64 squeue, .int .i64 sbal, .int .i64 swarm] 38)) := (Below.refl _ _).alloc (Nat.le_refl _) _
     have hbv := heap_alloc_new w10 (.cells #[.int .i64 sid, .slice ak sK.length ck, .int .i64 swork, .int .i64 sslots, .int .i64 squeue, .int .i64 sbal, .int .i64 swarm] 38)
     go_upto_region 20 with (fail)
     generalize w10.alloc (.cells #[.int .i64 sid, .slice ak sK.length ck, .int .i64 swork, .int .i64 sslots, .int .i64 squeue, .int .i64 sbal, .int .i64 swarm] 38) = W11 at hx11 hbv ⊢
     obtain ⟨b15, hb15⟩ : ∃ b, w10.heap.size = b := ⟨_, rfl⟩
     rw [hb15] at hbv ⊢
     have HV15 := hide (show BoxV W11 b15 ⟨sid, .slice ak sK.length ck, sK, swork, sslots, squeue, sbal, swarm⟩ from hbv)
     have HK15 := hide ((Sl.of_own' (enc := encS) (fun _ => rfl) hkv).ext hx11)
     have H11 := hide (E10.trans hx11)
     clear hbv hx11 hb15 hkv E10
     go_wp2_with fail
     refine (mservice_any z W11 (IB.out.ext H11.out) HI.out).mono ?_
     rintro e9 w12 ⟨kv, rfl, hkv, E12⟩
     rw [HTB.out, HRVE.out]
     rw [HRVE.out] at hkv
     obtain ⟨bk, dk, rfl⟩ := owns_shape hkv
     obtain ⟨rid, rkv, rK, rwork, rslots, rqueue, rbal, rwarm⟩ := rv
     simp only [] at hkv
     simp only [SvcD.val]
     have hx13 : Ext w12 (w12.alloc (.cells #[.int .i64 rid, .slice bk rK.length dk, .int .i64 rwork, .int .i64 rslots, .int .i64 rqueue, .int .i64 rbal, .int .i64 rwarm] 38)) := (Below.refl _ _).alloc (Nat.le_refl _) _
     have hbv := heap_alloc_new w12 (.cells #[.int .i64 rid, .slice bk rK.length dk, .int .i64 rwork, .int .i64 rslots, .int .i64 rqueue, .int .i64 rbal, .int .i64 rwarm] 38)
     go_upto_region 21 with (fail)
     generalize w12.alloc (.cells #[.int .i64 rid, .slice bk rK.length dk, .int .i64 rwork, .int .i64 rslots, .int .i64 rqueue, .int .i64 rbal, .int .i64 rwarm] 38) = W13 at hx13 hbv ⊢
     obtain ⟨b17, hb17⟩ : ∃ b, w12.heap.size = b := ⟨_, rfl⟩
     rw [hb17] at hbv ⊢
     have HV17 := hide (show BoxV W13 b17 ⟨rid, .slice bk rK.length dk, rK, rwork, rslots, rqueue, rbal, rwarm⟩ from hbv)
     have HK17 := hide ((Sl.of_own' (enc := encS) (fun _ => rfl) hkv).ext hx13)
     have HV15b := hide (HV15.out.ext (E12.trans hx13))
     have HK15b := hide (HK15.out.ext (E12.trans hx13))
     have H13 := hide (H11.out.trans (E12.trans hx13))
     clear hbv hx13 hb17 hkv E12 HV15 HK15 H11
     go_wp2_with fail
     refine (mring_any z W13 (IA.out.ext H13.out) HI.out).mono ?_
     rintro e9 w14 ⟨rfl, rfl⟩
     have hr := ring_of (IA.out.ext H13.out) z
     obtain ⟨r1, hre⟩ : ∃ r, (g z).getD nb = r := ⟨_, rfl⟩
     rw [hre] at hr ⊢
     obtain ⟨q1, rfl⟩ := ring_ptr hr
     have HR1 := hide hr
     clear hre hr
     go_wp2_with fail
     refine (mring_any z W13 (IB.out.ext H13.out) HI.out).mono ?_
     rintro e9 w14 ⟨rfl, rfl⟩
     have hr := ring_of (IB.out.ext H13.out) z
     obtain ⟨r2, hre⟩ : ∃ r, (g2 z).getD nb2 = r := ⟨_, rfl⟩
     rw [hre] at hr ⊢
     obtain ⟨q2, rfl⟩ := ring_ptr hr
     rw [HIDS.out] at hr
     have HR2 := hide hr
     clear hre hr
     go_wp2_with fail
     refine (diff_any W13 (IA.out.ext H13.out) (IB.out.ext H13.out)).mono ?_
     rintro e9 w14 ⟨y1, y2, rfl, hy1, hy2, E14⟩
     rw [HC1.out] at hy1
     rw [HC2.out] at hy2
     obtain ⟨xa, xc, rfl⟩ := owns_shape hy1
     obtain ⟨ya, yc, rfl⟩ := owns_shape hy2
     have H14 := hide (H13.out.trans E14)
     have HV15c := hide (HV15b.out.ext E14)
     have HV17c := hide (HV17.out.ext E14)
     have HK15c := hide (HK15b.out.ext E14)
     have HK17c := hide (HK17.out.ext E14)
     have HR1c := hide (HR1.out.ext E14)
     have HR2c := hide (HR2.out.ext E14)
     clear hy1 hy2 E14 H13 HV15b HV17 HK15b HK17 HR1 HR2
     simp only [List.length_nil]
     go_wp2_with (first | (refine BigFrame.wpList_want (by rfl) fun K hK => ?_; refine wp_load_mid 38 (.tmp 15) rfl b15 0 rfl (encV (⟨sid, .slice ak sK.length ck, sK, swork, sslots, squeue, sbal, swarm⟩ : SvcD)) dv (HV15c.out.range) hdv1 hdv2 Tryz.svcSize ?_; refine hK _ _ ?_; simp only [Act.put]) | (refine BigFrame.wpList_want (by rfl) fun K hK => ?_; refine wp_load_mid 38 (.tmp 17) rfl b17 0 rfl (encV (⟨rid, .slice bk rK.length dk, rK, rwork, rslots, rqueue, rbal, rwarm⟩ : SvcD)) dv (HV17c.out.range) hdv1 hdv2 Tryz.svcSize ?_; refine hK _ _ ?_; simp only [Act.put]) | (refine BigFrame.wpList_want (by rfl) fun K hK => ?_; go_simp; refine hK _ _ ?_; (try simp only [Act.put])))
     refine (sameS_true (⟨sid, .slice ak sK.length ck, sK, swork, sslots, squeue, sbal, swarm⟩ : SvcD) (⟨rid, .slice bk rK.length dk, rK, rwork, rslots, rqueue, rbal, rwarm⟩ : SvcD) w14 HK15c.out HK17c.out HSVC.out).mono ?_
     rintro e9 w15 ⟨rfl, E15⟩
     have HE15 := hide E15
     clear E15 HV15c HV17c HK15c HK17c
     go_wp2_with fail
     refine (mends_any z w15 (IA.out.ext (H14.out.trans HE15.out)).box (ends_sl (IA.out.ext (H14.out.trans HE15.out)).own) HND.out IA.out.few).mono ?_
     rintro e9 w16 ⟨v16, rfl, h16, E16⟩
     rw [HT1.out] at h16
     obtain ⟨a16, c16, rfl⟩ := owns_shape h16
     have HY16 := hide (Sl.of_own' (enc := encE) encE_len h16)
     have HE16 := hide (HE15.out.trans E16)
     clear h16 E16 HE15
     go_wp2_with fail
     refine (mends_any z w16 (IB.out.ext (H14.out.trans HE16.out)).box (ends_sl (IB.out.ext (H14.out.trans HE16.out)).own) HNE.out IB.out.few).mono ?_
     rintro e9 w17 ⟨v17, rfl, h17, E17⟩
     rw [HT2.out] at h17
     obtain ⟨a17, c17, rfl⟩ := owns_shape h17
     have HY17 := hide (Sl.of_own' (enc := encE) encE_len h17)
     have HY16b := hide (HY16.out.ext E17)
     have HE17 := hide (HE16.out.trans E17)
     clear h17 E17 HE16 HY16
     go_wp2_with fail
     refine (sameE_true T _ _ w17 HY16b.out HY17.out).mono ?_
     rintro e9 w18 ⟨rfl, E18⟩
     have HE18 := hide (HE17.out.trans E18)
     clear E18 HE17 HY16b HY17
     go_wp2_with fail
     refine (Rg.row_ints key (by decide) (HR1c.out.ext HE18.out)).mono ?_
     rintro e9 w19 ⟨v19, rfl, hro, E19⟩
     obtain ⟨RW, hRW⟩ : ∃ RW, Rg.rowOf key (Rg.pointsOf 16 (idsAt d.E z)) = RW := ⟨_, rfl⟩
     rw [hRW] at hro
     have HRW := hide hRW
     obtain ⟨-, a19, c19, rfl⟩ := hro.shape
     have HO19 := hide hro
     have HE19 := hide (HE18.out.trans E19)
     clear hro hRW E19 HE18 HR1c
     go_wp2_with fail
     refine (Rg.row_ints key (by decide) (HR2c.out.ext HE19.out)).mono ?_
     rintro e9 w20 ⟨v20, rfl, hro, E20⟩
     rw [HRW.out] at hro
     obtain ⟨-, a20, c20, rfl⟩ := hro.shape
     have HO20 := hide hro
     have HO19b := hide (HO19.out.ext E20)
     have HE20 := hide (HE19.out.trans E20)
     clear hro E20 HE19 HR2c HO19
     go_wp2_with fail
     refine (same2_true RW RW w20 HO19b.out HO20.out rfl).mono ?_
     rintro e9 w21 ⟨rfl, E21⟩
     have HXF := hide (HXW.out.trans (HX8.out.trans (H14.out.trans (HE20.out.trans E21))))
     have hmx := HM.out.ext HXF.out
     clear E21 HE20 HO19b HO20 H14
     go_wp2_with fail
     refine (lives16_any w21 hmx).mono ?_
     rintro e9 w22 ⟨rfl, E22⟩
     have HZ := hide (HXF.out.trans E22)
     clear E22 HXF hmx
     go_wp2
     go_ret
     exact ⟨rfl, HZ.out⟩
end Go.Proofs.YtofjcokclegkhaaGreatDoor
