/- Merged texts (RpE, RpF). -/
import Derived.Test.YtkhebanpplokdaaGreatDoorZpc
import Derived.Test.YtkhebanpplokdaaGreatDoorZhr
import Derived.Test.YtkhebanpplokdaaGreatDoorRkE
namespace Go.Proofs.YtkhebanpplokdaaGreatDoor
open Go.ChangeShapes Go.WideShapes Go.ChangeAt Go.RowKit Go.Lib Go.Shelf Go.Maps
/-- a version of which a proxy said something; u: where the longer list lies -/
def sayV (x : VerD) (has : Bool) (pr : Int) (u : Value) : VerD := if has = true then ⟨u, x.H ++ [pr], x.rv, x.R, x.pins, x.gone⟩ else ⟨x.hv, x.H, u, x.R ++ [pr], x.pins, x.gone⟩
def sayR (k : Int) (L : List VerD) (pr v : Int) : Int := if pr < 0 ∨ pr ≥ k then 1 else if v < 1 ∨ v > (L.length : Int) then 17 else if (L.getD (v.toNat - 1) ver0).H.contains pr = true ∨ (L.getD (v.toNat - 1) ver0).R.contains pr = true then 5 else 0
set_option maxRecDepth 100000 in
set_option maxHeartbeats 16000000 in
theorem rsay_any (k : Int) (lv : Value) (L : List VerD) (pr v : Int) (has : Bool) (w : World) (hs : VersAt w lv L) (h50 : L.length ≤ 50) (hI : I64 pr ∧ I64 v) (hl : ∀ x ∈ L, x.H.length ≤ 1000 ∧ x.R.length ≤ 1000) :
  Calls Tryz.prog 48 #[pVal k lv, .int .i64 pr, .int .i64 v, .bool has] w fun e w' => ∃ lv', e = .returned (.tuple #[pVal k lv', .int .i64 (sayR k L pr v)]) ∧ ∃ L', VersAt w' lv' L' ∧ (FarL w lv L → FarL w' lv' L') ∧ (sayR k L pr v ≠ 0 → L' = L) ∧ (sayR k L pr v = 0 → ∃ u, L' = L.set (v.toNat - 1) (sayV (L.getD (v.toNat - 1) ver0) has pr u)) ∧ Ext w w' := by
 obtain ⟨hl63, a, cap, rfl⟩ := hs.1.shape
 obtain ⟨dp, hp1, hp2⟩ := pDesc
 obtain ⟨i0, hi, hz0, hz1, hz2⟩ := info_z' infoI'
 have hx : Ext w ((w.alloc (.cells #[.int .i64 k, .slice a L.length cap] 55)).alloc (.cells #[.int .i64 0, .slice none 0 0] 55)) := ((Below.refl _ _).alloc (Nat.le_refl _) _).alloc (Nat.le_of_lt (by simp)) _
 have hb2 : BoxP ((w.alloc (.cells #[.int .i64 k, .slice a L.length cap] 55)).alloc (.cells #[.int .i64 0, .slice none 0 0] 55)) w.heap.size k (.slice a L.length cap) := (Below.heap_alloc _ _ _ (by simp)).trans (heap_alloc_new w _)
 have hb4 : BoxP ((w.alloc (.cells #[.int .i64 k, .slice a L.length cap] 55)).alloc (.cells #[.int .i64 0, .slice none 0 0] 55)) (w.heap.size + 1) 0 (.slice none 0 0) := heap_alloc2_new w _ _
 have HS := hide hs
 have HLL := hide hl
 obtain ⟨er, her⟩ : ∃ er : Int, sayR k L pr v = er := ⟨_, rfl⟩
 rw [her]
 unfold sayR at her
 have HER := hide her
 clear hs hl her
 show Calls Tryz.prog 48 #[.agg #[.int .i64 k, .slice a L.length cap], .int .i64 pr, .int .i64 v, .bool has] w _
 go_enter Tryz.func48, Tryz.ntmps48
 go_upto_region 1 with (fail)
 generalize (w.alloc (.cells #[.int .i64 k, .slice a L.length cap] 55)).alloc (.cells #[.int .i64 0, .slice none 0 0] 55) = W at hx hb2 hb4 ⊢
 obtain ⟨b2, hb2e⟩ : ∃ b, w.heap.size = b := ⟨_, rfl⟩
 rw [hb2e] at hb2 hb4 ⊢
 obtain ⟨b4, hb4e⟩ : ∃ b, b2 + 1 = b := ⟨_, rfl⟩
 rw [hb4e] at hb4 ⊢
 have hne : b2 ≠ b4 := by omega
 have hw2 : w.heap.size ≤ b2 := by omega
 have hw4 : w.heap.size ≤ b4 := by omega
 have HX := hide hx
 have HB2 := hide hb2
 have HB4 := hide hb4
 clear hx hb2 hb4 hb2e hb4e
 have c0 := HB2.out.c0
 have c1 := HB2.out.c1
 by_cases hp : pr < 0 ∨ pr ≥ k
 ·have hr := HER.out
  rw [if_pos hp] at hr
  clear HER
  have HER := hide hr
  clear hr c0 c1
  by_cases hp0 : pr < 0
  ·clear hp
   have c0 := HB2.out.c0
   have c1 := HB2.out.c1
   have d0 := HB4.out.c0
   have d1 := HB4.out.c1
   have z0 := HB4.out.fz 0
   have z1 := HB4.out.fz 1
   have hk : Ext w ((W.setCell ⟨b4, 0, none⟩ (.int .i64 k)).setCell ⟨b4, 1, none⟩ (.slice a L.length cap)) := Keeps.ext HX.out ((Keeps.of_set (X := fun q => q = b4) W b4 0 _ rfl).trans (Keeps.of_set (X := fun q => q = b4) _ b4 1 _ rfl)) (fun q hq => by rw [hq]; exact hw4)
   have HK := hide hk
   clear hk
   go_wp2
   refine bodyPost_ret (results_cell_slot (q := 9) rfl _ _ b4 0 [.int .i64 k, .slice a L.length cap] dp rfl ((HB4.out).both.range) hp1 hp2 pSize) rfl ?_
   exact ⟨.slice a L.length cap, by rw [← HER.out]; rfl, L, HS.out.ext HK.out, fun hf => hf.ext HK.out, fun _ => rfl, fun h => absurd (HER.out.trans h) (by decide), HK.out⟩
  ·have hp1' : pr ≥ k := by omega
   clear hp
   have c0 := HB2.out.c0
   have c1 := HB2.out.c1
   have d0 := HB4.out.c0
   have d1 := HB4.out.c1
   have z0 := HB4.out.fz 0
   have z1 := HB4.out.fz 1
   have hk : Ext w ((W.setCell ⟨b4, 0, none⟩ (.int .i64 k)).setCell ⟨b4, 1, none⟩ (.slice a L.length cap)) := Keeps.ext HX.out ((Keeps.of_set (X := fun q => q = b4) W b4 0 _ rfl).trans (Keeps.of_set (X := fun q => q = b4) _ b4 1 _ rfl)) (fun q hq => by rw [hq]; exact hw4)
   have HK := hide hk
   clear hk
   go_wp2
   refine bodyPost_ret (results_cell_slot (q := 9) rfl _ _ b4 0 [.int .i64 k, .slice a L.length cap] dp rfl ((HB4.out).both.range) hp1 hp2 pSize) rfl ?_
   exact ⟨.slice a L.length cap, by rw [← HER.out]; rfl, L, HS.out.ext HK.out, fun hf => hf.ext HK.out, fun _ => rfl, fun h => absurd (HER.out.trans h) (by decide), HK.out⟩
 have g3 : ¬ pr < 0 := by omega
 have g4 : ¬ pr ≥ k := by omega
 have hr := HER.out
 rw [if_neg hp] at hr
 clear HER
 have HER := hide hr
 clear hr hp c0 c1
 by_cases h1 : v < 1
 ·have hr := HER.out
  rw [if_pos (.inl h1)] at hr
  clear HER
  have HER := hide hr
  clear hr
  have c0 := HB2.out.c0
  have c1 := HB2.out.c1
  have d0 := HB4.out.c0
  have d1 := HB4.out.c1
  have z0 := HB4.out.fz 0
  have z1 := HB4.out.fz 1
  have hk : Ext w ((W.setCell ⟨b4, 0, none⟩ (.int .i64 k)).setCell ⟨b4, 1, none⟩ (.slice a L.length cap)) := Keeps.ext HX.out ((Keeps.of_set (X := fun q => q = b4) W b4 0 _ rfl).trans (Keeps.of_set (X := fun q => q = b4) _ b4 1 _ rfl)) (fun q hq => by rw [hq]; exact hw4)
  have HK := hide hk
  clear hk
  go_wp2
  refine bodyPost_ret (results_cell_slot (q := 9) rfl _ _ b4 0 [.int .i64 k, .slice a L.length cap] dp rfl ((HB4.out).both.range) hp1 hp2 pSize) rfl ?_
  exact ⟨.slice a L.length cap, by rw [← HER.out]; rfl, L, HS.out.ext HK.out, fun hf => hf.ext HK.out, fun _ => rfl, fun h => absurd (HER.out.trans h) (by decide), HK.out⟩
 by_cases h2 : v > (L.length : Int)
 ·have hr := HER.out
  rw [if_pos (.inr h2)] at hr
  clear HER
  have HER := hide hr
  clear hr
  have c0 := HB2.out.c0
  have c1 := HB2.out.c1
  have d0 := HB4.out.c0
  have d1 := HB4.out.c1
  have z0 := HB4.out.fz 0
  have z1 := HB4.out.fz 1
  have hk : Ext w ((W.setCell ⟨b4, 0, none⟩ (.int .i64 k)).setCell ⟨b4, 1, none⟩ (.slice a L.length cap)) := Keeps.ext HX.out ((Keeps.of_set (X := fun q => q = b4) W b4 0 _ rfl).trans (Keeps.of_set (X := fun q => q = b4) _ b4 1 _ rfl)) (fun q hq => by rw [hq]; exact hw4)
  have HK := hide hk
  clear hk
  go_wp2
  refine bodyPost_ret (results_cell_slot (q := 9) rfl _ _ b4 0 [.int .i64 k, .slice a L.length cap] dp rfl ((HB4.out).both.range) hp1 hp2 pSize) rfl ?_
  exact ⟨.slice a L.length cap, by rw [← HER.out]; rfl, L, HS.out.ext HK.out, fun hf => hf.ext HK.out, fun _ => rfl, fun h => absurd (HER.out.trans h) (by decide), HK.out⟩
 ·have hr := HER.out
  rw [if_neg (by omega)] at hr
  clear HER
  have HER := hide hr
  clear hr
  obtain ⟨m, hme⟩ : ∃ m : Nat, v = (m : Int) + 1 := ⟨v.toNat - 1, by omega⟩
  have hm : m < L.length := by omega
  have g1 : ¬ v < 1 := h1
  have g2 : ¬ v > (L.length : Int) := h2
  have EX1 := hide HX.out
  have HB21 := hide HB2.out
  have HB41 := hide HB4.out
  subst hme
  clear h1 h2 HX HB2 HB4
  generalize W = W1 at *
  have hvat := (HS.out.ext EX1.out)
  obtain ⟨b, off, hae, hbb, c60, c61, c62, c63⟩ := vers_at hvat.1 m hm
  have hxo := HS.out.2 _ (List.getElem_mem hm)
  have hpbm := HLL.out _ (List.getElem_mem hm)
  have hgd : L.getD (((m : Int) + 1).toNat - 1) ver0 = L[m] := by
   rw [show ((m : Int) + 1).toNat - 1 = m by omega, List.getD_eq_getElem?_getD, List.getElem?_eq_getElem hm]
   rfl
  have HGD := hide hgd
  obtain ⟨x, hxe⟩ : ∃ x, L[m] = x := ⟨_, rfl⟩
  rw [hxe] at c60 c61 c62 c63 hxo hpbm HGD
  obtain ⟨xh, xH, xr, xR, xp, xg⟩ := x
  obtain ⟨_, ah, ch, h1⟩ := hxo.1.shape
  obtain ⟨_, ar, cr, h2⟩ := hxo.2.shape
  simp only [] at h1 h2 c60 c61 c62 c63 hpbm
  subst h1 h2 hae
  have hw1 : IntKind.i64.wrap ((m : Int) + 1 - 1) = (m : Int) := by rw [IntKind.wrap_i64]; omega
  have hmz : (m : Int) < L.length := by omega
  have hm0 : (0 : Int) ≤ m := by omega
  have c0 := HB21.out.c0
  have c1 := HB21.out.c1
  have d0 := HB41.out.c0
  have d1 := HB41.out.c1
  have z0 := HB41.out.fz 0
  have z1 := HB41.out.fz 1
  have hal : Ext W1 (W1.alloc (.cells #[.slice ah xH.length ch, .slice ar xR.length cr, .int .i64 xp, .bool xg] 173)) := (Below.refl _ _).alloc (Nat.le_refl _) _
  have hb6 := heap_alloc_new W1 (.cells #[.slice ah xH.length ch, .slice ar xR.length cr, .int .i64 xp, .bool xg] 173)
  have HXO := hide hxo
  obtain ⟨vz, hvz⟩ : ∃ vz : Int, (m : Int) + 1 = vz := ⟨_, rfl⟩
  rw [hvz] at hw1 g1 g2 HER HGD ⊢
  have HLX := hide hpbm
  clear hxo hxe hgd hvat hpbm
  go_upto_region 6 with (fail)
  generalize W1.alloc (.cells #[.slice ah xH.length ch, .slice ar xR.length cr, .int .i64 xp, .bool xg] 173) = W2 at hal hb6 ⊢
  obtain ⟨b6, hb6e⟩ : ∃ b, W1.heap.size = b := ⟨_, rfl⟩
  rw [hb6e] at hb6 ⊢
  clear c60 c61 c62 c63 c0 c1 d0 d1 z0 z1
  have e60 : W2.cell? ⟨b6, 0, none⟩ = some (.slice ah xH.length ch) := by simp only [World.cell?, hb6]; rfl
  have e61 : W2.cell? ⟨b6, 1, none⟩ = some (.slice ar xR.length cr) := by simp only [World.cell?, hb6]; rfl
  have e62 : W2.cell? ⟨b6, 2, none⟩ = some (.int .i64 xp) := by simp only [World.cell?, hb6]; rfl
  have e63 : W2.cell? ⟨b6, 3, none⟩ = some (.bool xg) := by simp only [World.cell?, hb6]; rfl
  have HB6 := hide hb6
  have H12 := hide hal
  have h6w : W1.heap.size ≤ b6 := by omega
  have EX2 := hide (EX1.out.trans hal)
  have HB22 := hide (HB21.out.ext hal)
  have HB42 := hide (HB41.out.ext hal)
  have HM1 := hide (show vz.toNat - 1 = m by omega)
  have her := HER.out
  have hgp : L.getD (vz.toNat - 1) ver0 = ⟨.slice ah xH.length ch, xH, .slice ar xR.length cr, xR, xp, xg⟩ := HGD.out
  rw [hgp] at her
  have her : (if xH.contains pr = true ∨ xR.contains pr = true then (5 : Int) else 0) = er := her
  clear HER
  have HER := hide her
  have hlx : xH.length ≤ 1000 ∧ xR.length ≤ 1000 := HLX.out
  clear hgp her hal hb6
  have hh1 := has_any xH pr (.slice ah xH.length ch) W2 (HXO.out.1.ext EX2.out)
  have hh2 := has_any xR pr (.slice ar xR.length cr) W2 (HXO.out.2.ext EX2.out)
  obtain ⟨t1, ht1⟩ : ∃ t, xH.contains pr = t := ⟨_, rfl⟩
  obtain ⟨t2, ht2⟩ : ∃ t, xR.contains pr = t := ⟨_, rfl⟩
  rw [ht1] at hh1 HER
  rw [ht2] at hh2 HER
  have HH1 := hide hh1
  have HH2 := hide hh2
  clear hh1 hh2 ht1 ht2
  go_wp2_with fail
  refine HH1.out.mono ?_
  rintro e w7 ⟨rfl, rfl⟩
  cases t1 with
  | true =>
   have hr := HER.out
   rw [if_pos (.inl rfl)] at hr
   clear HER
   have HER := hide hr
   clear hr HH1 HH2
   have c0 := HB22.out.c0
   have c1 := HB22.out.c1
   have d0 := HB42.out.c0
   have d1 := HB42.out.c1
   have z0 := HB42.out.fz 0
   have z1 := HB42.out.fz 1
   have hk : Ext w ((W2.setCell ⟨b4, 0, none⟩ (.int .i64 k)).setCell ⟨b4, 1, none⟩ (.slice (some ⟨b, off, none⟩) L.length cap)) := Keeps.ext EX2.out ((Keeps.of_set (X := fun q => q = b4) W2 b4 0 _ rfl).trans (Keeps.of_set (X := fun q => q = b4) _ b4 1 _ rfl)) (fun q hq => by rw [hq]; exact hw4)
   have HK := hide hk
   clear hk
   go_wp2
   refine bodyPost_ret (results_cell_slot (q := 9) rfl _ _ b4 0 [.int .i64 k, .slice (some ⟨b, off, none⟩) L.length cap] dp rfl ((HB42.out).both.range) hp1 hp2 pSize) rfl ?_
   exact ⟨.slice (some ⟨b, off, none⟩) L.length cap, by rw [← HER.out]; rfl, L, HS.out.ext HK.out, fun hf => hf.ext HK.out, fun _ => rfl, fun h => absurd (HER.out.trans h) (by decide), HK.out⟩
  | false =>
   go_wp2_with fail
   refine HH2.out.mono ?_
   rintro e w8 ⟨rfl, rfl⟩
   cases t2 with
   | true =>
    have hr := HER.out
    rw [if_pos (.inr rfl)] at hr
    clear HER
    have HER := hide hr
    clear hr HH1 HH2
    have c0 := HB22.out.c0
    have c1 := HB22.out.c1
    have d0 := HB42.out.c0
    have d1 := HB42.out.c1
    have z0 := HB42.out.fz 0
    have z1 := HB42.out.fz 1
    have hk : Ext w ((W2.setCell ⟨b4, 0, none⟩ (.int .i64 k)).setCell ⟨b4, 1, none⟩ (.slice (some ⟨b, off, none⟩) L.length cap)) := Keeps.ext EX2.out ((Keeps.of_set (X := fun q => q = b4) W2 b4 0 _ rfl).trans (Keeps.of_set (X := fun q => q = b4) _ b4 1 _ rfl)) (fun q hq => by rw [hq]; exact hw4)
    have HK := hide hk
    clear hk
    go_wp2
    refine bodyPost_ret (results_cell_slot (q := 9) rfl _ _ b4 0 [.int .i64 k, .slice (some ⟨b, off, none⟩) L.length cap] dp rfl ((HB42.out).both.range) hp1 hp2 pSize) rfl ?_
    exact ⟨.slice (some ⟨b, off, none⟩) L.length cap, by rw [← HER.out]; rfl, L, HS.out.ext HK.out, fun hf => hf.ext HK.out, fun _ => rfl, fun h => absurd (HER.out.trans h) (by decide), HK.out⟩
   | false =>
    have hr := HER.out
    rw [if_neg (by simp)] at hr
    clear HER
    have HER := hide hr
    clear hr HH1 HH2
    cases has with
    | true =>
     go_upto_region 9 with (fail)
     refine wp_region_lit ?_
     refine wpList_plain rfl fun K hK => ?_
     go_simp
     refine hK _ _ ?_
     have hal3 : Ext W2 (W2.alloc (.cells #[] 3)) := (Below.refl _ _).alloc (Nat.le_refl _) _
     have hown0 := World.ownsRow_lit (base := W2.heap.size) (e := 3) (size := 1) W2 #[] 0 (Nat.le_refl _) (by unfold maxLen; omega) rfl
     generalize W2.alloc (.cells #[] 3) = Wa at hal3 hown0 ⊢
     have ea6 : Wa.cell? ⟨b6, 0, none⟩ = some (.slice ah xH.length ch) := (hal3.cell (p := ⟨b6, 0, none⟩) (World.block_lt_of_cell? W2 _ e60)).trans e60
     refine wpList_plain rfl fun K hK => ?_
     go_simp
     refine hK _ _ ?_
     refine wpList_plain rfl fun K hK => ?_
     go_simp
     refine hK _ _ ?_
     refine wpList_append_sl (enc := encI) rfl _ _ _ rfl W2.heap.size 3 i0 (.int .i64 0) 1 8 Tryz.underlying22 hi hz0 hz1 hz2 rfl (by decide) (fun _ => rfl) _ 0 [] rfl hown0 _ rfl xH (HXO.out.1.ext (EX2.out.trans hal3)) (fun x _ => encI_one x) (by unfold maxLen; omega) (by omega) hal3.size ?_
     intro va wa howna hga
     rw [Nat.zero_add, List.nil_append] at howna
     have hxa : Ext W2 wa := hal3.grown hga (by have := hal3.size; omega) (fun q hq => (hown0.lt q hq).1)
     obtain ⟨aa, ca, hva⟩ := owns_shape howna
     subst hva
     refine wpList_plain rfl fun K hK => ?_
     go_simp
     refine hK _ _ ?_
     refine wpList_plain rfl fun K hK => ?_
     go_simp
     refine hK _ _ ?_
     refine wpList_append_own _ rfl _ _ _ rfl W2.heap.size 3 i0 (.int .i64 0) 1 8 Tryz.underlying22 hi hz0 hz1 hz2 rfl (by decide) _ xH.length _ rfl (howna.alloc _) ⟨wa.heap.size, 0, none⟩ 1 1 [.int .i64 pr] rfl rfl (cells_new wa [.int .i64 pr] 3) (by simp [Value.oneCell']) (by unfold maxLen; omega) (by omega) (by have := hxa.size; simp; omega) ?_
     intro vb0 wb hownb hgb _
     obtain ⟨ab, cb, rfl⟩ := owns_shape hownb
     have hxb : Ext W2 wb := ext_app hxa ((Below.refl _ _).alloc (Nat.le_refl _) _) howna hgb
     have hsn : (xH ++ [pr]).flatMap encI = xH.flatMap encI ++ [.int .i64 pr] := by rw [List.flatMap_append]; rfl
     have hinb : Ints wb (.slice ab (xH.length + 1) cb) (xH ++ [pr]) := Sl.of_own' (enc := encI) (fun _ => rfl) (by rw [hsn, List.length_append]; exact hownb)
     have HINB := hide hinb
     simp only [Act.put]
     have hb6b := (hxb.block b6 (Array.getElem?_eq_some_iff.1 HB6.out).1).trans HB6.out
     have g60 : wb.cell? ⟨b6, 0, none⟩ = some (.slice ah xH.length ch) := by simp only [World.cell?, hb6b]; rfl
     have g61 : wb.cell? ⟨b6, 1, none⟩ = some (.slice ar xR.length cr) := by simp only [World.cell?, hb6b]; rfl
     have g62 : wb.cell? ⟨b6, 2, none⟩ = some (.int .i64 xp) := by simp only [World.cell?, hb6b]; rfl
     have g63 : wb.cell? ⟨b6, 3, none⟩ = some (.bool xg) := by simp only [World.cell?, hb6b]; rfl
     have z6 : wb.frozen? ⟨b6, 0, none⟩ = false := by simp [World.frozen?, hb6b]
     have hne6 : ∀ q, (Value.slice ab (xH.length + 1) cb).ownBlock = some q → q ≠ b6 := fun q hq e => by
      have := (hownb.lt q hq).1
      have := (Array.getElem?_eq_some_iff.1 HB6.out).1
      omega
     have hkb := Keeps.of_set (X := fun q => q = b6) wb b6 0 (.slice ab (xH.length + 1) cb) rfl
     have hx3 : Ext w (wb.setCell ⟨b6, 0, none⟩ (.slice ab (xH.length + 1) cb)) := Keeps.ext (EX2.out.trans hxb) hkb (fun q hq => by rw [hq]; have := EX1.out.size; omega)
     have hown3 := owns_keeps hownb hkb (fun q hq e => hne6 q hq e)
     have hin3 : Ints (wb.setCell ⟨b6, 0, none⟩ (.slice ab (xH.length + 1) cb)) (.slice ab (xH.length + 1) cb) (xH ++ [pr]) := Sl.of_own' (enc := encI) (fun _ => rfl) (by rw [hsn, List.length_append]; exact hown3)
     have hb63 := ArrB.set hb6b 0 (.slice ab (xH.length + 1) cb)
     have hx13 : Ext W1 (wb.setCell ⟨b6, 0, none⟩ (.slice ab (xH.length + 1) cb)) := Keeps.ext ((show Ext W1 W2 from H12.out).trans hxb) hkb (fun q hq => by rw [hq]; exact h6w)
     have HX13 := hide hx13
     have HX3 := hide hx3
     have HIN3 := hide hin3
     have HOW3 := hide hown3
     have HSN := hide hsn
     have HB63 := hide hb63
     clear hownb hgb hga hown0 howna hxa hxb hinb hb6b hne6 hkb hx3 hown3 hin3 hb63 hx13 hsn hal3
     go_upto_region 11 with (fail)
     clear g60 g61 g62 g63 z6
     generalize wb.setCell ⟨b6, 0, none⟩ (.slice ab (xH.length + 1) cb) = W3 at *
     have f60 : W3.cell? ⟨b6, 0, none⟩ = some ((.slice ab (xH.length + 1) cb)) := by simp only [World.cell?, HB63.out]; rfl
     have f61 : W3.cell? ⟨b6, 1, none⟩ = some (.slice ar xR.length cr) := by simp only [World.cell?, HB63.out]; rfl
     have f62 : W3.cell? ⟨b6, 2, none⟩ = some (.int .i64 xp) := by simp only [World.cell?, HB63.out]; rfl
     have f63 : W3.cell? ⟨b6, 3, none⟩ = some (.bool xg) := by simp only [World.cell?, HB63.out]; rfl
     have HB23 := hide (HB21.out.ext HX13.out)
     have HB43 := hide (HB41.out.ext HX13.out)
     have c0 := HB23.out.c0
     have c1 := HB23.out.c1
     have hwth := with_any (.slice (some ⟨b, off, none⟩) L.length cap) L m hm (⟨(.slice ab (xH.length + 1) cb), xH ++ [pr], .slice ar xR.length cr, xR, xp, xg⟩ : VerD) W3 (HS.out.ext HX3.out) ⟨HIN3.out, HXO.out.2.ext HX3.out⟩ h50
     have HWT := hide hwth
     clear hwth
     go_wp2_with fail
     refine HWT.out.mono ?_
     rintro e W4 ⟨lv', rfl, hown, E4⟩
     have hlt2 := HB23.out.lt
     have hlt4 := HB43.out.lt
     have HB24 := hide (HB23.out.ext E4)
     have HB44 := hide (HB43.out.ext E4)
     obtain ⟨ax, cx, hlve⟩ := owns_shape hown
     subst hlve
     have hk3 : Keeps (fun q => q = b2 ∨ q = b4) W4 (((W4.setCell ⟨b2, 1, none⟩ (.slice ax L.length cx)).setCell ⟨b4, 0, none⟩ (.int .i64 k)).setCell ⟨b4, 1, none⟩ (.slice ax L.length cx)) := ((Keeps.of_set (X := fun q => q = b2 ∨ q = b4) W4 b2 1 _ (.inl rfl)).trans (Keeps.of_set (X := fun q => q = b2 ∨ q = b4) _ b4 0 _ (.inr rfl))).trans (Keeps.of_set (X := fun q => q = b2 ∨ q = b4) _ b4 1 _ (.inr rfl))
     have hfin : Ext w (((W4.setCell ⟨b2, 1, none⟩ (.slice ax L.length cx)).setCell ⟨b4, 0, none⟩ (.int .i64 k)).setCell ⟨b4, 1, none⟩ (.slice ax L.length cx)) := Keeps.ext (HX3.out.trans E4) hk3 (fun q hq => by rcases hq with rfl | rfl <;> omega)
     have hown2 := owns_keeps hown hk3 (fun g hg hq => by
      have := (hown.lt g hg).1
      rcases hq with rfl | rfl <;> omega)
     have hinf : Ints (((W4.setCell ⟨b2, 1, none⟩ (.slice ax L.length cx)).setCell ⟨b4, 0, none⟩ (.int .i64 k)).setCell ⟨b4, 1, none⟩ (.slice ax L.length cx)) (.slice ab (xH.length + 1) cb) (xH ++ [pr]) := Sl.of_own' (enc := encI) (fun _ => rfl) (by have h := owns_keeps (owns_ext HOW3.out E4) hk3 (fun g hg hq => by have h1 := ((HOW3.out).lt g hg).1; have h2 := HB21.out.lt; have h3 := HB41.out.lt; have h4 := H12.out.size; rcases hq with rfl | rfl <;> omega); rw [HSN.out, List.length_append]; exact h)
     have HINF := hide hinf
     have HOINF := hide (owns_keeps (owns_ext HOW3.out E4) hk3 (fun g hg hq => by have h1 := ((HOW3.out).lt g hg).1; have h2 := HB21.out.lt; have h3 := HB41.out.lt; have h4 := H12.out.size; rcases hq with rfl | rfl <;> omega))
     have HB4F := hide (HB44.out.far (q := b2) (j := 1) (u := .slice ax L.length cx) (fun e => hne e.symm))
     have HFIN := hide hfin
     have HOWN := hide hown2
     have c0 := HB24.out.c0
     have c1 := HB24.out.c1
     have z21 := HB24.out.fz 1
     have d0 := HB44.out.c0
     have d1 := HB44.out.c1
     have z0 := HB44.out.fz 0
     have z1 := HB44.out.fz 1
     clear hk3 hfin hown2 hown E4 f60 f61 f62 f63 hinf
     go_wp2
     refine bodyPost_ret (results_cell_slot (q := 9) rfl _ _ b4 0 [.int .i64 k, .slice ax L.length cx] dp rfl (HB4F.out.both.range) hp1 hp2 pSize) rfl ?_
     refine ⟨.slice ax L.length cx, by rw [← HER.out]; rfl, L.set m (⟨(.slice ab (xH.length + 1) cb), xH ++ [pr], .slice ar xR.length cr, xR, xp, xg⟩ : VerD), ?_, ?_, fun h => absurd HER.out.symm h, fun _ => ⟨(.slice ab (xH.length + 1) cb), ?_⟩, HFIN.out⟩
     ·exact ⟨Sl.of_own' (enc := encW) encW_len (by rw [List.length_set]; exact HOWN.out), fun y hy => by
       rcases List.mem_or_eq_of_mem_set hy with hy | hy
       ·exact (HS.out.2 y hy).ext HFIN.out
       ·rw [hy]
        exact ⟨HINF.out, HXO.out.2.ext HFIN.out⟩⟩
     ·exact fun hf => ⟨Far.of_own HOWN.out (by decide) (by decide) (by decide), fun y hy => by
       rcases List.mem_or_eq_of_mem_set hy with hy | hy
       ·exact ⟨(hf.2 y hy).1.ext HFIN.out, (hf.2 y hy).2.ext HFIN.out⟩
       ·have hx := hf.2 _ (getD_mem (L := L) (i := m) hm)
        have hg := HGD.out
        rw [HM1.out] at hg
        rw [hg] at hx
        rw [hy]
        exact ⟨Far.of_own HOINF.out (by decide) (by decide) (by decide), hx.2.ext HFIN.out⟩⟩
     ·have hg := HGD.out
      rw [HM1.out] at hg
      rw [show ((m : Int) + 1).toNat - 1 = m by omega, hg]
      rfl
    | false =>
     go_upto_region 10 with (fail)
     refine wp_region_lit ?_
     refine wpList_plain rfl fun K hK => ?_
     go_simp
     refine hK _ _ ?_
     have hal3 : Ext W2 (W2.alloc (.cells #[] 3)) := (Below.refl _ _).alloc (Nat.le_refl _) _
     have hown0 := World.ownsRow_lit (base := W2.heap.size) (e := 3) (size := 1) W2 #[] 0 (Nat.le_refl _) (by unfold maxLen; omega) rfl
     generalize W2.alloc (.cells #[] 3) = Wa at hal3 hown0 ⊢
     have ea6 : Wa.cell? ⟨b6, 1, none⟩ = some (.slice ar xR.length cr) := (hal3.cell (p := ⟨b6, 1, none⟩) (World.block_lt_of_cell? W2 _ e61)).trans e61
     refine wpList_plain rfl fun K hK => ?_
     go_simp
     refine hK _ _ ?_
     refine wpList_plain rfl fun K hK => ?_
     go_simp
     refine hK _ _ ?_
     refine wpList_append_sl (enc := encI) rfl _ _ _ rfl W2.heap.size 3 i0 (.int .i64 0) 1 8 Tryz.underlying22 hi hz0 hz1 hz2 rfl (by decide) (fun _ => rfl) _ 0 [] rfl hown0 _ rfl xR (HXO.out.2.ext (EX2.out.trans hal3)) (fun x _ => encI_one x) (by unfold maxLen; omega) (by omega) hal3.size ?_
     intro va wa howna hga
     rw [Nat.zero_add, List.nil_append] at howna
     have hxa : Ext W2 wa := hal3.grown hga (by have := hal3.size; omega) (fun q hq => (hown0.lt q hq).1)
     obtain ⟨aa, ca, hva⟩ := owns_shape howna
     subst hva
     refine wpList_plain rfl fun K hK => ?_
     go_simp
     refine hK _ _ ?_
     refine wpList_plain rfl fun K hK => ?_
     go_simp
     refine hK _ _ ?_
     refine wpList_append_own _ rfl _ _ _ rfl W2.heap.size 3 i0 (.int .i64 0) 1 8 Tryz.underlying22 hi hz0 hz1 hz2 rfl (by decide) _ xR.length _ rfl (howna.alloc _) ⟨wa.heap.size, 0, none⟩ 1 1 [.int .i64 pr] rfl rfl (cells_new wa [.int .i64 pr] 3) (by simp [Value.oneCell']) (by unfold maxLen; omega) (by omega) (by have := hxa.size; simp; omega) ?_
     intro vb0 wb hownb hgb _
     obtain ⟨ab, cb, rfl⟩ := owns_shape hownb
     have hxb : Ext W2 wb := ext_app hxa ((Below.refl _ _).alloc (Nat.le_refl _) _) howna hgb
     have hsn : (xR ++ [pr]).flatMap encI = xR.flatMap encI ++ [.int .i64 pr] := by rw [List.flatMap_append]; rfl
     have hinb : Ints wb (.slice ab (xR.length + 1) cb) (xR ++ [pr]) := Sl.of_own' (enc := encI) (fun _ => rfl) (by rw [hsn, List.length_append]; exact hownb)
     have HINB := hide hinb
     simp only [Act.put]
     have hb6b := (hxb.block b6 (Array.getElem?_eq_some_iff.1 HB6.out).1).trans HB6.out
     have g60 : wb.cell? ⟨b6, 0, none⟩ = some (.slice ah xH.length ch) := by simp only [World.cell?, hb6b]; rfl
     have g61 : wb.cell? ⟨b6, 1, none⟩ = some (.slice ar xR.length cr) := by simp only [World.cell?, hb6b]; rfl
     have g62 : wb.cell? ⟨b6, 2, none⟩ = some (.int .i64 xp) := by simp only [World.cell?, hb6b]; rfl
     have g63 : wb.cell? ⟨b6, 3, none⟩ = some (.bool xg) := by simp only [World.cell?, hb6b]; rfl
     have z6 : wb.frozen? ⟨b6, 1, none⟩ = false := by simp [World.frozen?, hb6b]
     have hne6 : ∀ q, (Value.slice ab (xR.length + 1) cb).ownBlock = some q → q ≠ b6 := fun q hq e => by
      have := (hownb.lt q hq).1
      have := (Array.getElem?_eq_some_iff.1 HB6.out).1
      omega
     have hkb := Keeps.of_set (X := fun q => q = b6) wb b6 1 (.slice ab (xR.length + 1) cb) rfl
     have hx3 : Ext w (wb.setCell ⟨b6, 1, none⟩ (.slice ab (xR.length + 1) cb)) := Keeps.ext (EX2.out.trans hxb) hkb (fun q hq => by rw [hq]; have := EX1.out.size; omega)
     have hown3 := owns_keeps hownb hkb (fun q hq e => hne6 q hq e)
     have hin3 : Ints (wb.setCell ⟨b6, 1, none⟩ (.slice ab (xR.length + 1) cb)) (.slice ab (xR.length + 1) cb) (xR ++ [pr]) := Sl.of_own' (enc := encI) (fun _ => rfl) (by rw [hsn, List.length_append]; exact hown3)
     have hb63 := ArrB.set hb6b 1 (.slice ab (xR.length + 1) cb)
     have hx13 : Ext W1 (wb.setCell ⟨b6, 1, none⟩ (.slice ab (xR.length + 1) cb)) := Keeps.ext ((show Ext W1 W2 from H12.out).trans hxb) hkb (fun q hq => by rw [hq]; exact h6w)
     have HX13 := hide hx13
     have HX3 := hide hx3
     have HIN3 := hide hin3
     have HOW3 := hide hown3
     have HSN := hide hsn
     have HB63 := hide hb63
     clear hownb hgb hga hown0 howna hxa hxb hinb hb6b hne6 hkb hx3 hown3 hin3 hb63 hx13 hsn hal3
     go_upto_region 11 with (fail)
     clear g60 g61 g62 g63 z6
     generalize wb.setCell ⟨b6, 1, none⟩ (.slice ab (xR.length + 1) cb) = W3 at *
     have f60 : W3.cell? ⟨b6, 0, none⟩ = some (.slice ah xH.length ch) := by simp only [World.cell?, HB63.out]; rfl
     have f61 : W3.cell? ⟨b6, 1, none⟩ = some ((.slice ab (xR.length + 1) cb)) := by simp only [World.cell?, HB63.out]; rfl
     have f62 : W3.cell? ⟨b6, 2, none⟩ = some (.int .i64 xp) := by simp only [World.cell?, HB63.out]; rfl
     have f63 : W3.cell? ⟨b6, 3, none⟩ = some (.bool xg) := by simp only [World.cell?, HB63.out]; rfl
     have HB23 := hide (HB21.out.ext HX13.out)
     have HB43 := hide (HB41.out.ext HX13.out)
     have c0 := HB23.out.c0
     have c1 := HB23.out.c1
     have hwth := with_any (.slice (some ⟨b, off, none⟩) L.length cap) L m hm (⟨.slice ah xH.length ch, xH, (.slice ab (xR.length + 1) cb), xR ++ [pr], xp, xg⟩ : VerD) W3 (HS.out.ext HX3.out) ⟨HXO.out.1.ext HX3.out, HIN3.out⟩ h50
     have HWT := hide hwth
     clear hwth
     go_wp2_with fail
     refine HWT.out.mono ?_
     rintro e W4 ⟨lv', rfl, hown, E4⟩
     have hlt2 := HB23.out.lt
     have hlt4 := HB43.out.lt
     have HB24 := hide (HB23.out.ext E4)
     have HB44 := hide (HB43.out.ext E4)
     obtain ⟨ax, cx, hlve⟩ := owns_shape hown
     subst hlve
     have hk3 : Keeps (fun q => q = b2 ∨ q = b4) W4 (((W4.setCell ⟨b2, 1, none⟩ (.slice ax L.length cx)).setCell ⟨b4, 0, none⟩ (.int .i64 k)).setCell ⟨b4, 1, none⟩ (.slice ax L.length cx)) := ((Keeps.of_set (X := fun q => q = b2 ∨ q = b4) W4 b2 1 _ (.inl rfl)).trans (Keeps.of_set (X := fun q => q = b2 ∨ q = b4) _ b4 0 _ (.inr rfl))).trans (Keeps.of_set (X := fun q => q = b2 ∨ q = b4) _ b4 1 _ (.inr rfl))
     have hfin : Ext w (((W4.setCell ⟨b2, 1, none⟩ (.slice ax L.length cx)).setCell ⟨b4, 0, none⟩ (.int .i64 k)).setCell ⟨b4, 1, none⟩ (.slice ax L.length cx)) := Keeps.ext (HX3.out.trans E4) hk3 (fun q hq => by rcases hq with rfl | rfl <;> omega)
     have hown2 := owns_keeps hown hk3 (fun g hg hq => by
      have := (hown.lt g hg).1
      rcases hq with rfl | rfl <;> omega)
     have hinf : Ints (((W4.setCell ⟨b2, 1, none⟩ (.slice ax L.length cx)).setCell ⟨b4, 0, none⟩ (.int .i64 k)).setCell ⟨b4, 1, none⟩ (.slice ax L.length cx)) (.slice ab (xR.length + 1) cb) (xR ++ [pr]) := Sl.of_own' (enc := encI) (fun _ => rfl) (by have h := owns_keeps (owns_ext HOW3.out E4) hk3 (fun g hg hq => by have h1 := ((HOW3.out).lt g hg).1; have h2 := HB21.out.lt; have h3 := HB41.out.lt; have h4 := H12.out.size; rcases hq with rfl | rfl <;> omega); rw [HSN.out, List.length_append]; exact h)
     have HINF := hide hinf
     have HOINF := hide (owns_keeps (owns_ext HOW3.out E4) hk3 (fun g hg hq => by have h1 := ((HOW3.out).lt g hg).1; have h2 := HB21.out.lt; have h3 := HB41.out.lt; have h4 := H12.out.size; rcases hq with rfl | rfl <;> omega))
     have HB4F := hide (HB44.out.far (q := b2) (j := 1) (u := .slice ax L.length cx) (fun e => hne e.symm))
     have HFIN := hide hfin
     have HOWN := hide hown2
     have c0 := HB24.out.c0
     have c1 := HB24.out.c1
     have z21 := HB24.out.fz 1
     have d0 := HB44.out.c0
     have d1 := HB44.out.c1
     have z0 := HB44.out.fz 0
     have z1 := HB44.out.fz 1
     clear hk3 hfin hown2 hown E4 f60 f61 f62 f63 hinf
     go_wp2
     refine bodyPost_ret (results_cell_slot (q := 9) rfl _ _ b4 0 [.int .i64 k, .slice ax L.length cx] dp rfl (HB4F.out.both.range) hp1 hp2 pSize) rfl ?_
     refine ⟨.slice ax L.length cx, by rw [← HER.out]; rfl, L.set m (⟨.slice ah xH.length ch, xH, (.slice ab (xR.length + 1) cb), xR ++ [pr], xp, xg⟩ : VerD), ?_, ?_, fun h => absurd HER.out.symm h, fun _ => ⟨(.slice ab (xR.length + 1) cb), ?_⟩, HFIN.out⟩
     ·exact ⟨Sl.of_own' (enc := encW) encW_len (by rw [List.length_set]; exact HOWN.out), fun y hy => by
       rcases List.mem_or_eq_of_mem_set hy with hy | hy
       ·exact (HS.out.2 y hy).ext HFIN.out
       ·rw [hy]
        exact ⟨HXO.out.1.ext HFIN.out, HINF.out⟩⟩
     ·exact fun hf => ⟨Far.of_own HOWN.out (by decide) (by decide) (by decide), fun y hy => by
       rcases List.mem_or_eq_of_mem_set hy with hy | hy
       ·exact ⟨(hf.2 y hy).1.ext HFIN.out, (hf.2 y hy).2.ext HFIN.out⟩
       ·have hx := hf.2 _ (getD_mem (L := L) (i := m) hm)
        have hg := HGD.out
        rw [HM1.out] at hg
        rw [hg] at hx
        rw [hy]
        exact ⟨hx.1.ext HFIN.out, Far.of_own HOINF.out (by decide) (by decide) (by decide)⟩⟩
     ·have hg := HGD.out
      rw [HM1.out] at hg
      rw [show ((m : Int) + 1).toNat - 1 = m by omega, hg]
      rfl
end Go.Proofs.YtkhebanpplokdaaGreatDoor
namespace Go.Proofs.YtkhebanpplokdaaGreatDoor
open Go.ChangeShapes Go.WideShapes Go.ChangeAt Go.RowKit Go.Lib Go.Shelf Go.Maps
theorem results_cell_slots {P : Program} {fn : Func} {p q r : Tmp} {ty : TypeId} (h : fn.results = #[.cell p ty, .tmp q, .tmp r]) (tmps : Array Value) (w : World) (b o : Nat) (cs : List Value) (d : TypeDesc)
  (hp : tmps.getD p undef = .pointer (some ⟨b, o, none⟩)) (hc : w.rangeAt b o cs) (hu : P.underlying ty = some d) (hd : d.isRow = true) (hi : (P.info? ty).map (·.size) = some cs.length) :
  (results fn tmps).run P w = .ok (.tuple #[.agg cs.toArray, tmps.getD q undef, tmps.getD r undef]) w := by
 have hp' : tmps[p]?.getD undef = .pointer (some ⟨b, o, none⟩) := by simpa using hp
 simp [results, h, hp', asAddr, run_loadVar_mid w b o ty cs d hc hu hd hi]
set_option maxRecDepth 100000 in
set_option maxHeartbeats 16000000 in
theorem rpub_any (k : Int) (lv : Value) (L : List VerD) (c : ConfD) (w : World) (hs : VersAt w lv L) (hok : ConfOk w c) (hf : ConfFit c) (hr : chkC c = 0) (h50 : L.length < 50) :
  Calls Tryz.prog 47 #[pVal k lv, c.val] w fun e w' => ∃ lv', e = .returned (.tuple #[pVal k lv', .int .i64 ((L.length : Int) + 1), .int .i64 0]) ∧ VersAt w' lv' (L ++ [ver0]) ∧ (FarL w lv L → FarL w' lv' (L ++ [ver0])) ∧ Ext w w' := by
 obtain ⟨cd, hcd1, hcd2⟩ := Tryz.confDesc
 obtain ⟨dp, hp1, hp2⟩ := pDesc
 obtain ⟨iw, hi, hz0, hz1, hz2⟩ := info_z' infoW'
 obtain ⟨hl63, a, cap, rfl⟩ := hs.1.shape
 have hx : Ext w (((w.alloc (.cells #[.int .i64 k, .slice a L.length cap] 55)).alloc (.cells #[c.sv, c.ev, c.rv, c.tv, .int .i64 c.w0, .int .i64 c.w1, .int .i64 c.w2, .int .i64 c.w3, .int .i64 c.w4, .int .i64 c.w5, .int .i64 c.w6, .int .i64 c.panic, .int .i64 c.low, .int .i64 c.high, .int .i64 c.wait, .int .i64 c.hop, .int .i64 c.life, .int .i64 c.purse, .int .i64 c.horizon, .int .i64 c.sample] 30)).alloc (.cells #[.int .i64 0, .slice none 0 0] 55)) := (((Below.refl _ _).alloc (Nat.le_refl _) _).alloc (Nat.le_of_lt (by simp)) _).alloc (by simp; omega) _
 have hb2 : BoxP (((w.alloc (.cells #[.int .i64 k, .slice a L.length cap] 55)).alloc (.cells #[c.sv, c.ev, c.rv, c.tv, .int .i64 c.w0, .int .i64 c.w1, .int .i64 c.w2, .int .i64 c.w3, .int .i64 c.w4, .int .i64 c.w5, .int .i64 c.w6, .int .i64 c.panic, .int .i64 c.low, .int .i64 c.high, .int .i64 c.wait, .int .i64 c.hop, .int .i64 c.life, .int .i64 c.purse, .int .i64 c.horizon, .int .i64 c.sample] 30)).alloc (.cells #[.int .i64 0, .slice none 0 0] 55)) w.heap.size k (.slice a L.length cap) := (Below.heap_alloc _ _ _ (by simp; omega)).trans ((Below.heap_alloc _ _ _ (by simp)).trans (heap_alloc_new w _))
 have hb3 : BoxC (((w.alloc (.cells #[.int .i64 k, .slice a L.length cap] 55)).alloc (.cells #[c.sv, c.ev, c.rv, c.tv, .int .i64 c.w0, .int .i64 c.w1, .int .i64 c.w2, .int .i64 c.w3, .int .i64 c.w4, .int .i64 c.w5, .int .i64 c.w6, .int .i64 c.panic, .int .i64 c.low, .int .i64 c.high, .int .i64 c.wait, .int .i64 c.hop, .int .i64 c.life, .int .i64 c.purse, .int .i64 c.horizon, .int .i64 c.sample] 30)).alloc (.cells #[.int .i64 0, .slice none 0 0] 55)) (w.heap.size + 1) c := (Below.heap_alloc _ _ _ (by simp)).trans (heap_alloc2_new w _ _)
 have hb4 : BoxP (((w.alloc (.cells #[.int .i64 k, .slice a L.length cap] 55)).alloc (.cells #[c.sv, c.ev, c.rv, c.tv, .int .i64 c.w0, .int .i64 c.w1, .int .i64 c.w2, .int .i64 c.w3, .int .i64 c.w4, .int .i64 c.w5, .int .i64 c.w6, .int .i64 c.panic, .int .i64 c.low, .int .i64 c.high, .int .i64 c.wait, .int .i64 c.hop, .int .i64 c.life, .int .i64 c.purse, .int .i64 c.horizon, .int .i64 c.sample] 30)).alloc (.cells #[.int .i64 0, .slice none 0 0] 55)) (w.heap.size + 1 + 1) 0 (.slice none 0 0) := by
  have := heap_alloc_new ((w.alloc (.cells #[.int .i64 k, .slice a L.length cap] 55)).alloc (.cells #[c.sv, c.ev, c.rv, c.tv, .int .i64 c.w0, .int .i64 c.w1, .int .i64 c.w2, .int .i64 c.w3, .int .i64 c.w4, .int .i64 c.w5, .int .i64 c.w6, .int .i64 c.panic, .int .i64 c.low, .int .i64 c.high, .int .i64 c.wait, .int .i64 c.hop, .int .i64 c.life, .int .i64 c.purse, .int .i64 c.horizon, .int .i64 c.sample] 30)) (.cells #[.int .i64 0, .slice none 0 0] 55)
  simpa [BoxP] using this
 have hone : ∀ x ∈ L, ∀ u ∈ encW x, u.oneCell' = true := fun x hx => (hs.2 x hx).one
 have HS := hide hs
 have HOK := hide hok
 have HO := hide hone
 clear hs hok hone
 show Calls Tryz.prog 47 #[.agg #[.int .i64 k, .slice a L.length cap], .agg #[c.sv, c.ev, c.rv, c.tv, .int .i64 c.w0, .int .i64 c.w1, .int .i64 c.w2, .int .i64 c.w3, .int .i64 c.w4, .int .i64 c.w5, .int .i64 c.w6, .int .i64 c.panic, .int .i64 c.low, .int .i64 c.high, .int .i64 c.wait, .int .i64 c.hop, .int .i64 c.life, .int .i64 c.purse, .int .i64 c.horizon, .int .i64 c.sample]] w _
 go_enter Tryz.func47, Tryz.ntmps47
 go_upto_region 1 with (fail)
 generalize ((w.alloc (.cells #[.int .i64 k, .slice a L.length cap] 55)).alloc (.cells #[c.sv, c.ev, c.rv, c.tv, .int .i64 c.w0, .int .i64 c.w1, .int .i64 c.w2, .int .i64 c.w3, .int .i64 c.w4, .int .i64 c.w5, .int .i64 c.w6, .int .i64 c.panic, .int .i64 c.low, .int .i64 c.high, .int .i64 c.wait, .int .i64 c.hop, .int .i64 c.life, .int .i64 c.purse, .int .i64 c.horizon, .int .i64 c.sample] 30)).alloc (.cells #[.int .i64 0, .slice none 0 0] 55) = W at hx hb2 hb3 hb4 ⊢
 obtain ⟨b2, hb2e⟩ : ∃ b, w.heap.size = b := ⟨_, rfl⟩
 rw [hb2e] at hb2 hb3 hb4 ⊢
 obtain ⟨b3, hb3e⟩ : ∃ b, b2 + 1 = b := ⟨_, rfl⟩
 rw [hb3e] at hb3 hb4 ⊢
 obtain ⟨b4, hb4e⟩ : ∃ b, b3 + 1 = b := ⟨_, rfl⟩
 rw [hb4e] at hb4 ⊢
 have hne : b2 ≠ b4 := by omega
 have hw2 : w.heap.size ≤ b2 := by omega
 have hw4 : w.heap.size ≤ b4 := by omega
 have HX := hide hx
 have HB2 := hide hb2
 have HB3 := hide hb3
 have HB4 := hide hb4
 clear hx hb2 hb3 hb4 hb2e hb3e hb4e
 refine wp_region_lit ?_
 refine wpList_load_mid rfl 30 (.tmp 3) rfl b3 0 rfl (encC c) cd (HB3.out.range) hcd1 hcd2 Tryz.confSize ?_
 simp only [Act.put]
 go_wp2_with fail
 refine (check16_any c W (HOK.out.ext HX.out) hf).mono ?_
 rintro e W1 ⟨rfl, E1⟩
 rw [hr]
 have HX1 := hide (HX.out.trans E1)
 have HB21 := hide (HB2.out.ext E1)
 have HB41 := hide (HB4.out.ext E1)
 have c1 := HB21.out.c1
 have h5z : ¬ (L.length : Int) ≥ 50 := by omega
 clear E1 HX HB2 HB3 HB4 HOK hf hr
 go_upto_region 6 with (fail)
 clear h5z
 refine wp_region_lit ?_
 refine wpList_plain rfl fun K hK => ?_
 go_simp
 refine hK _ _ ?_
 have hal3 : Ext W1 (W1.alloc (.cells #[] 173)) := (Below.refl _ _).alloc (Nat.le_refl _) _
 have hown0 := World.ownsRow_lit (base := W1.heap.size) (e := 173) (size := 4) W1 #[] 0 (Nat.le_refl _) (by unfold maxLen; omega) rfl
 generalize W1.alloc (.cells #[] 173) = Wa at hal3 hown0 ⊢
 have ca1 := (HB21.out.ext hal3).c1
 refine wpList_plain rfl fun K hK => ?_
 go_simp
 refine hK _ _ ?_
 refine wpList_plain rfl fun K hK => ?_
 go_simp
 refine hK _ _ ?_
 refine wpList_append_sl (enc := encW) rfl _ _ _ rfl W1.heap.size 173 iw _ 4 64 Tryz.underlying53 hi hz0 hz1 hz2 rfl (by decide) encW_len _ 0 [] rfl hown0 _ rfl L (HS.out.ext (HX1.out.trans hal3)).1 HO.out (by unfold maxLen; omega) (by omega) hal3.size ?_
 intro va wa howna hga
 rw [Nat.zero_add, List.nil_append] at howna
 have hxa : Ext W1 wa := hal3.grown hga (by have := hal3.size; omega) (fun q hq => (hown0.lt q hq).1)
 obtain ⟨aa, caa, hva⟩ := owns_shape howna
 subst hva
 refine wpList_plain rfl fun K hK => ?_
 go_simp
 refine hK _ _ ?_
 refine wpList_plain rfl fun K hK => ?_
 go_simp
 refine hK _ _ ?_
 refine wpList_append_own _ rfl _ _ _ rfl W1.heap.size 173 iw _ 4 64 Tryz.underlying53 hi hz0 hz1 hz2 rfl (by decide) _ L.length _ rfl (howna.alloc _) ⟨wa.heap.size, 0, none⟩ 1 1 [.slice none 0 0, .slice none 0 0, .int .i64 0, .bool false] rfl rfl (cells_new wa [.slice none 0 0, .slice none 0 0, .int .i64 0, .bool false] 173) (by simp [Value.oneCell']) (by unfold maxLen; omega) (by omega) (by have := hxa.size; simp; omega) ?_
 intro vb0 wb hownb hgb _
 obtain ⟨ab, cb, rfl⟩ := owns_shape hownb
 have hxb : Ext W1 wb := ext_app hxa ((Below.refl _ _).alloc (Nat.le_refl _) _) howna hgb
 simp only [Act.put]
 have hb2b := HB21.out.ext hxb
 have hb4b := HB41.out.ext hxb
 have g1 := hb2b.c1
 have z1 := hb2b.fz 1
 have hlt2 := HB21.out.lt
 have hlt4 := HB41.out.lt
 have hk2 := Keeps.of_set (X := fun q => q = b2 ∨ q = b4) wb b2 1 (.slice ab (L.length + 1) cb) (.inl rfl)
 have hbs := hb2b.set1 (.slice ab (L.length + 1) cb)
 have hb4s := hb4b.far (q := b2) (j := 1) (u := .slice ab (L.length + 1) cb) (fun e => hne e.symm)
 have HXB := hide (HX1.out.trans hxb)
 have HOB := hide hownb
 have HK2 := hide hk2
 have HBS := hide hbs
 have HB4S := hide hb4s
 clear hk2 hbs hb4s hb2b hb4b hxb hownb hgb hga howna hown0 hxa hal3 ca1 c1
 go_upto_region 7 with (fail)
 clear g1 z1
 generalize wb.setCell ⟨b2, 1, none⟩ (.slice ab (L.length + 1) cb) = Wc at HK2 HBS HB4S ⊢
 have c0 := HBS.out.c0
 have c1 := HBS.out.c1
 have d0 := HB4S.out.c0
 have d1 := HB4S.out.c1
 have z0 := HB4S.out.fz 0
 have z1 := HB4S.out.fz 1
 have hk : Keeps (fun q => q = b2 ∨ q = b4) wb ((Wc.setCell ⟨b4, 0, none⟩ (.int .i64 k)).setCell ⟨b4, 1, none⟩ (.slice ab (L.length + 1) cb)) := HK2.out.trans ((Keeps.of_set (X := fun q => q = b2 ∨ q = b4) Wc b4 0 _ (.inr rfl)).trans (Keeps.of_set (X := fun q => q = b2 ∨ q = b4) _ b4 1 _ (.inr rfl)))
 have hfin := Keeps.ext HXB.out hk (fun q hq => by rcases hq with rfl | rfl <;> omega)
 have hown2 := owns_keeps HOB.out hk (fun g hg hq => by
  have := (HOB.out.lt g hg).1
  rcases hq with rfl | rfl <;> omega)
 have HFIN := hide hfin
 have HOWN := hide hown2
 clear hk hfin hown2
 have hfd := HFIN.out.trans ((Below.refl _ _).drew)
 have HFD := hide hfd
 have HOD := hide (HOWN.out.drew)
 have hbd : BoxP ((Wc.setCell ⟨b4, 0, none⟩ (.int .i64 k)).setCell ⟨b4, 1, none⟩ (.slice ab (L.length + 1) cb)).drew b4 k (.slice ab (L.length + 1) cb) := HB4S.out.both
 have HBD := hide hbd
 clear hfd hbd
 go_region
 clear c0 c1 d0 d1 z0 z1
 go_wp2
 refine bodyPost_ret (results_cell_slots (q := 5) (r := 6) rfl _ _ b4 0 [.int .i64 k, .slice ab (L.length + 1) cb] dp rfl (HBD.out.range) hp1 hp2 pSize) rfl ?_
 refine ⟨.slice ab (L.length + 1) cb, rfl, ⟨Sl.of_own' (enc := encW) encW_len (by rw [List.length_append, List.flatMap_append]; exact HOD.out), fun x hx => ?_⟩, fun hf => ⟨Far.of_own HOD.out (by decide) (by decide) (by decide), fun x hx => ?_⟩, HFD.out⟩
 ·rcases List.mem_append.1 hx with hx | hx
  ·exact (HS.out.2 x hx).ext HFD.out
  ·rw [List.mem_singleton.1 hx]
   exact ⟨ints_nil _, ints_nil _⟩
 ·rcases List.mem_append.1 hx with hx | hx
  ·exact ⟨(hf.2 x hx).1.ext HFD.out, (hf.2 x hx).2.ext HFD.out⟩
  ·rw [List.mem_singleton.1 hx]
   exact ⟨Far.nil _, Far.nil _⟩
end Go.Proofs.YtkhebanpplokdaaGreatDoor
