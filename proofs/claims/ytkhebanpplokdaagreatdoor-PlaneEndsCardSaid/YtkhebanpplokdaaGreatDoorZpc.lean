/- Merged texts (RpC, RpD). -/
import Derived.Test.YtkhebanpplokdaaGreatDoorZkp
namespace Go.Proofs.YtkhebanpplokdaaGreatDoor
open Go.ChangeShapes Go.WideShapes Go.ChangeAt Go.RowKit Go.Lib Go.Shelf Go.Maps
def pinV (v : VerD) (d : Int) : VerD := ⟨v.hv, v.H, v.rv, v.R, v.pins + d, v.gone⟩
/-- a plane in a box -/
def BoxP (w : World) (b : Nat) (k : Int) (lv : Value) : Prop := w.heap[b]? = some (.cells #[.int .i64 k, lv] 55 (0, 0))
theorem BoxP.lt {w : World} {b : Nat} {k : Int} {lv : Value} (h : BoxP w b k lv) : b < w.heap.size := (Array.getElem?_eq_some_iff.1 h).1
theorem BoxP.ext {w w' : World} {b : Nat} {k : Int} {lv : Value} (h : BoxP w b k lv) (e : Ext w w') : BoxP w' b k lv := (e.block b h.lt).trans h
theorem BoxP.c0 {w : World} {b : Nat} {k : Int} {lv : Value} (h : BoxP w b k lv) : w.cell? ⟨b, 0, none⟩ = some (.int .i64 k) := by simp only [World.cell?, show w.heap[b]? = _ from h]; rfl
theorem BoxP.c1 {w : World} {b : Nat} {k : Int} {lv : Value} (h : BoxP w b k lv) : w.cell? ⟨b, 1, none⟩ = some lv := by simp only [World.cell?, show w.heap[b]? = _ from h]; rfl
theorem BoxP.fz {w : World} {b : Nat} {k : Int} {lv : Value} (h : BoxP w b k lv) (j : Nat) : w.frozen? ⟨b, j, none⟩ = false := by simp [World.frozen?, show w.heap[b]? = _ from h]
theorem BoxP.set1 {w : World} {b : Nat} {k : Int} {lv : Value} (h : BoxP w b k lv) (lv' : Value) : BoxP (w.setCell ⟨b, 1, none⟩ lv') b k lv' := by
 have := ArrB.set h 1 lv'
 simpa [BoxP] using this
theorem BoxP.far {w : World} {b q j : Nat} {k : Int} {lv u : Value} (h : BoxP w b k lv) (hq : b ≠ q) : BoxP (w.setCell ⟨q, j, none⟩ u) b k lv := (Below.heap_setCell _ _ _ _ hq).trans h
theorem liveT_le (k : Int) (L : List VerD) : ∀ t, liveT k L t ≤ t
 | 0 => Nat.le_refl _
 | t + 1 => by
  have := liveT_le k L t
  unfold liveT
  split <;> omega
theorem BoxP.range {w : World} {b : Nat} {k : Int} {lv : Value} (h : BoxP w b k lv) : w.rangeAt b 0 [.int .i64 k, lv] := fun j u hu => by
 rw [Nat.zero_add]
 exact ArrB.cell h j u (by simpa using hu)
theorem BoxP.set0 {w : World} {b : Nat} {k k' : Int} {lv : Value} (h : BoxP w b k lv) : BoxP (w.setCell ⟨b, 0, none⟩ (.int .i64 k')) b k' lv := by
 have := ArrB.set h 0 (.int .i64 k')
 simpa [BoxP] using this
theorem BoxP.both {w : World} {b : Nat} {k k' : Int} {lv lv' : Value} (h : BoxP w b k lv) : BoxP ((w.setCell ⟨b, 0, none⟩ (.int .i64 k')).setCell ⟨b, 1, none⟩ lv') b k' lv' := h.set0.set1 lv'
theorem pDesc0 : (Tryz.prog.underlying 55).map TypeDesc.isRow = some true := by kernel_rfl
theorem pDesc : ∃ d, Tryz.prog.underlying 55 = some d ∧ d.isRow = true := by
 have h := pDesc0
 cases hu : Tryz.prog.underlying 55 with
 | none => rw [hu] at h; cases h
 | some d => rw [hu] at h; exact ⟨d, rfl, by simpa using h⟩
theorem pSize : (Tryz.prog.info? 55).map (·.size) = some 2 := by kernel_rfl
set_option maxRecDepth 100000 in
set_option maxHeartbeats 8000000 in
theorem rpin_any (k : Int) (lv : Value) (L : List VerD) (v : Int) (w : World) (hs : VersAt w lv L) (h50 : L.length ≤ 50) (hI : I64 v) (hpb : ∀ x ∈ L, 0 ≤ x.pins ∧ x.pins ≤ 1000000) :
  Calls Tryz.prog 49 #[pVal k lv, .int .i64 v] w fun e w' => ∃ lv', e = .returned (.tuple #[pVal k lv', .int .i64 (if v = 0 ∨ v ≠ (liveT k L L.length : Nat) then (17 : Int) else 0)]) ∧ VersAt w' lv' (if (if v = 0 ∨ v ≠ (liveT k L L.length : Nat) then (17 : Int) else 0) = 0 then L.set (v.toNat - 1) (pinV (L.getD (v.toNat - 1) ver0) 1) else L) ∧ (FarL w lv L → FarL w' lv' (if (if v = 0 ∨ v ≠ (liveT k L L.length : Nat) then (17 : Int) else 0) = 0 then L.set (v.toNat - 1) (pinV (L.getD (v.toNat - 1) ver0) 1) else L)) ∧ Ext w w' := by
 obtain ⟨hl63, a, cap, rfl⟩ := hs.1.shape
 obtain ⟨dp, hp1, hp2⟩ := pDesc
 have hx : Ext w ((w.alloc (.cells #[.int .i64 k, .slice a L.length cap] 55)).alloc (.cells #[.int .i64 0, .slice none 0 0] 55)) := ((Below.refl _ _).alloc (Nat.le_refl _) _).alloc (Nat.le_of_lt (by simp)) _
 have hb2 : BoxP ((w.alloc (.cells #[.int .i64 k, .slice a L.length cap] 55)).alloc (.cells #[.int .i64 0, .slice none 0 0] 55)) w.heap.size k (.slice a L.length cap) := (Below.heap_alloc _ _ _ (by simp)).trans (heap_alloc_new w _)
 have hb4 : BoxP ((w.alloc (.cells #[.int .i64 k, .slice a L.length cap] 55)).alloc (.cells #[.int .i64 0, .slice none 0 0] 55)) (w.heap.size + 1) 0 (.slice none 0 0) := heap_alloc2_new w _ _
 have HS := hide hs
 have HPB := hide hpb
 obtain ⟨er, her⟩ : ∃ er : Int, (if v = 0 ∨ v ≠ (liveT k L L.length : Nat) then (17 : Int) else 0) = er := ⟨_, rfl⟩
 rw [her]
 have HER := hide her
 obtain ⟨LF, hLF⟩ : ∃ z, (if er = 0 then L.set (v.toNat - 1) (pinV (L.getD (v.toNat - 1) ver0) 1) else L) = z := ⟨_, rfl⟩
 rw [hLF]
 have HLF := hide hLF
 clear hs hpb her hLF
 show Calls Tryz.prog 49 #[.agg #[.int .i64 k, .slice a L.length cap], .int .i64 v] w _
 go_enter Tryz.func49, Tryz.ntmps49
 go_upto_region 1 with (fail)
 generalize (w.alloc (.cells #[.int .i64 k, .slice a L.length cap] 55)).alloc (.cells #[.int .i64 0, .slice none 0 0] 55) = W at hx hb2 hb4 ⊢
 obtain ⟨b2, hb2e⟩ : ∃ b, w.heap.size = b := ⟨_, rfl⟩
 rw [hb2e] at hb2 hb4 ⊢
 obtain ⟨b4, hb4e⟩ : ∃ b, b2 + 1 = b := ⟨_, rfl⟩
 rw [hb4e] at hb4 ⊢
 have hne : b2 ≠ b4 := by omega
 have hw2 : w.heap.size ≤ b2 := by omega
 have hw4 : w.heap.size ≤ b4 := by omega
 have HX := hide hx
 have HB2 := hide hb2
 have HB4 := hide hb4
 clear hx hb2 hb4 hb2e hb4e
 by_cases h0 : v = 0
 ·have hr := HER.out
  rw [if_pos (.inl h0)] at hr
  subst hr
  subst h0
  have c0 := HB2.out.c0
  have c1 := HB2.out.c1
  have d0 := HB4.out.c0
  have d1 := HB4.out.c1
  have z0 := HB4.out.fz 0
  have z1 := HB4.out.fz 1
  have hk : Ext w ((W.setCell ⟨b4, 0, none⟩ (.int .i64 k)).setCell ⟨b4, 1, none⟩ (.slice a L.length cap)) := Keeps.ext HX.out ((Keeps.of_set (X := fun q => q = b4) W b4 0 _ rfl).trans (Keeps.of_set (X := fun q => q = b4) _ b4 1 _ rfl)) (fun q hq => by rw [hq]; exact hw4)
  have HK := hide hk
  clear hk
  go_wp2
  refine bodyPost_ret (results_cell_slot (q := 5) rfl _ _ b4 0 [.int .i64 k, .slice a L.length cap] dp rfl ((HB4.out).both.range) hp1 hp2 pSize) rfl ?_
  exact ⟨.slice a L.length cap, rfl, by rw [← HLF.out, if_neg (by decide)]; exact HS.out.ext HK.out, by rw [← HLF.out, if_neg (by decide)]; exact fun hf => hf.ext HK.out, HK.out⟩
 have q0 : (v == 0) = false := by simpa using h0
 have c0 := HB2.out.c0
 have c1 := HB2.out.c1
 go_wp2_with fail
 refine (rlive_any k _ L W (HS.out.ext HX.out)).mono ?_
 rintro e W1 ⟨rfl, E1⟩
 have EX1 := hide (HX.out.trans E1)
 have HB21 := hide (HB2.out.ext E1)
 have HB41 := hide (HB4.out.ext E1)
 have hle := liveT_le k L L.length
 obtain ⟨l, hl⟩ : ∃ l, liveT k L L.length = l := ⟨_, rfl⟩
 rw [hl] at HER hle ⊢
 clear hl c0 c1 E1
 by_cases hv : v = (l : Int)
 ·have hr := HER.out
  rw [if_neg (by omega)] at hr
  subst hr
  have q1 : (v != (l : Int)) = false := by simpa using hv
  obtain ⟨m, hme⟩ : ∃ m : Nat, l = m + 1 := ⟨l - 1, by omega⟩
  have hm : m < L.length := by omega
  have hvm : v = (m : Int) + 1 := by omega
  subst hvm
  clear hv hle hme HER h0
  have hvat := (HS.out.ext EX1.out)
  obtain ⟨b, off, hae, hbb, c60, c61, c62, c63⟩ := vers_at hvat.1 m hm
  have hxo := HS.out.2 _ (List.getElem_mem hm)
  have hpbm := HPB.out _ (List.getElem_mem hm)
  have hgd : L.getD (((m : Int) + 1).toNat - 1) ver0 = L[m] := by
   rw [show ((m : Int) + 1).toNat - 1 = m by omega, List.getD_eq_getElem?_getD, List.getElem?_eq_getElem hm]
   rfl
  have HGD := hide hgd
  obtain ⟨x, hxe⟩ : ∃ x, L[m] = x := ⟨_, rfl⟩
  rw [hxe] at c60 c61 c62 c63 hxo hpbm HGD
  obtain ⟨xh, xH, xr, xR, xp, xg⟩ := x
  obtain ⟨_, ah, ch, h1⟩ := hxo.1.shape
  obtain ⟨_, ar, cr, h2⟩ := hxo.2.shape
  simp only [] at h1 h2 c60 c61 c62 c63 hpbm
  subst h1 h2 hae
  have hw1 : IntKind.i64.wrap ((m : Int) + 1 - 1) = (m : Int) := by rw [IntKind.wrap_i64]; omega
  have hw2 : IntKind.i64.wrap (xp + 1) = xp + 1 := by rw [IntKind.wrap_i64]; omega
  have hmz : (m : Int) < L.length := by omega
  have hm0 : (0 : Int) ≤ m := by omega
  have c0 := HB21.out.c0
  have c1 := HB21.out.c1
  have d0 := HB41.out.c0
  have d1 := HB41.out.c1
  have z0 := HB41.out.fz 0
  have z1 := HB41.out.fz 1
  have hal : Ext W1 (W1.alloc (.cells #[.slice ah xH.length ch, .slice ar xR.length cr, .int .i64 xp, .bool xg] 173)) := (Below.refl _ _).alloc (Nat.le_refl _) _
  have hb6 := heap_alloc_new W1 (.cells #[.slice ah xH.length ch, .slice ar xR.length cr, .int .i64 xp, .bool xg] 173)
  have HXO := hide hxo
  obtain ⟨vz, hvz⟩ : ∃ vz : Int, (m : Int) + 1 = vz := ⟨_, rfl⟩
  rw [hvz] at hw1 q0 q1 ⊢
  clear hxo hxe hgd hvat hpbm
  go_upto_region 4 with (fail)
  generalize W1.alloc (.cells #[.slice ah xH.length ch, .slice ar xR.length cr, .int .i64 xp, .bool xg] 173) = W2 at hal hb6 ⊢
  obtain ⟨b6, hb6e⟩ : ∃ b, W1.heap.size = b := ⟨_, rfl⟩
  rw [hb6e] at hb6 ⊢
  clear c60 c61 c62 c63 c0 c1 d0 d1 z0 z1
  have e60 : W2.cell? ⟨b6, 0, none⟩ = some (.slice ah xH.length ch) := by simp only [World.cell?, hb6]; rfl
  have e61 : W2.cell? ⟨b6, 1, none⟩ = some (.slice ar xR.length cr) := by simp only [World.cell?, hb6]; rfl
  have e62 : W2.cell? ⟨b6, 2, none⟩ = some (.int .i64 xp) := by simp only [World.cell?, hb6]; rfl
  have e63 : W2.cell? ⟨b6, 3, none⟩ = some (.bool xg) := by simp only [World.cell?, hb6]; rfl
  have z62 : W2.frozen? ⟨b6, 2, none⟩ = false := by simp [World.frozen?, hb6]
  have h6w : W1.heap.size ≤ b6 := by omega
  have hxs : Ext W1 (W2.setCell ⟨b6, 2, none⟩ (.int .i64 (xp + 1))) := Keeps.ext hal (Keeps.of_set (X := fun q => q = b6) W2 b6 2 _ rfl) (fun q hq => by rw [hq]; exact h6w)
  go_upto_region 5 with (fail)
  have f60 : (W2.setCell ⟨b6, 2, none⟩ (.int .i64 (xp + 1))).cell? ⟨b6, 0, none⟩ = some (.slice ah xH.length ch) := (World.cell?_setCell_other W2 ⟨b6, 2, none⟩ ⟨b6, 0, none⟩ _ (fun e => by simp at e)).trans e60
  have f61 : (W2.setCell ⟨b6, 2, none⟩ (.int .i64 (xp + 1))).cell? ⟨b6, 1, none⟩ = some (.slice ar xR.length cr) := (World.cell?_setCell_other W2 ⟨b6, 2, none⟩ ⟨b6, 1, none⟩ _ (fun e => by simp at e)).trans e61
  have f63 : (W2.setCell ⟨b6, 2, none⟩ (.int .i64 (xp + 1))).cell? ⟨b6, 3, none⟩ = some (.bool xg) := (World.cell?_setCell_other W2 ⟨b6, 2, none⟩ ⟨b6, 3, none⟩ _ (fun e => by simp at e)).trans e63
  have f62 : (W2.setCell ⟨b6, 2, none⟩ (.int .i64 (xp + 1))).cell? ⟨b6, 2, none⟩ = some (.int .i64 (xp + 1)) := by
   have hb := ArrB.set hb6 2 (.int .i64 (xp + 1))
   simp only [World.cell?, hb]
   rfl
  generalize W2.setCell ⟨b6, 2, none⟩ (.int .i64 (xp + 1)) = W3 at hxs f60 f61 f62 f63 ⊢
  clear e60 e61 e62 e63 z62 hal hb6
  have HX3 := hide (EX1.out.trans hxs)
  have HB23 := hide (HB21.out.ext hxs)
  have HB43 := hide (HB41.out.ext hxs)
  have c0 := HB23.out.c0
  have c1 := HB23.out.c1
  have hwth := with_any (.slice (some ⟨b, off, none⟩) L.length cap) L m hm ⟨.slice ah xH.length ch, xH, .slice ar xR.length cr, xR, xp + 1, xg⟩ W3 (HS.out.ext HX3.out) ⟨HXO.out.1.ext HX3.out, HXO.out.2.ext HX3.out⟩ h50
  have HWT := hide hwth
  have HVZ := hide hvz
  clear hwth hxs hvz
  go_wp2_with fail
  refine HWT.out.mono ?_
  rintro e W4 ⟨lv', rfl, hown, E4⟩
  have hlt2 := HB23.out.lt
  have hlt4 := HB43.out.lt
  have HB24 := hide (HB23.out.ext E4)
  have HB44 := hide (HB43.out.ext E4)
  have hlvs := owns_shape hown
  obtain ⟨ax, cx, hlve⟩ := hlvs
  subst hlve
  have hk3 : Keeps (fun q => q = b2 ∨ q = b4) W4 (((W4.setCell ⟨b2, 1, none⟩ (.slice ax L.length cx)).setCell ⟨b4, 0, none⟩ (.int .i64 k)).setCell ⟨b4, 1, none⟩ (.slice ax L.length cx)) := ((Keeps.of_set (X := fun q => q = b2 ∨ q = b4) W4 b2 1 _ (.inl rfl)).trans (Keeps.of_set (X := fun q => q = b2 ∨ q = b4) _ b4 0 _ (.inr rfl))).trans (Keeps.of_set (X := fun q => q = b2 ∨ q = b4) _ b4 1 _ (.inr rfl))
  have hfin : Ext w (((W4.setCell ⟨b2, 1, none⟩ (.slice ax L.length cx)).setCell ⟨b4, 0, none⟩ (.int .i64 k)).setCell ⟨b4, 1, none⟩ (.slice ax L.length cx)) := Keeps.ext (HX3.out.trans E4) hk3 (fun q hq => by rcases hq with rfl | rfl <;> omega)
  have hown2 := owns_keeps hown hk3 (fun g hg hq => by
   have := (hown.lt g hg).1
   rcases hq with rfl | rfl <;> omega)
  have HB4F := hide (HB44.out.far (q := b2) (j := 1) (u := .slice ax L.length cx) (fun e => hne e.symm))
  have HFIN := hide hfin
  have HOWN := hide hown2
  have c0 := HB24.out.c0
  have c1 := HB24.out.c1
  have z21 := HB24.out.fz 1
  have d0 := HB44.out.c0
  have d1 := HB44.out.c1
  have z0 := HB44.out.fz 0
  have z1 := HB44.out.fz 1
  clear hk3 hfin hown2 hown E4 f60 f61 f62 f63
  go_wp2
  refine bodyPost_ret (results_cell_slot (q := 5) rfl _ _ b4 0 [.int .i64 k, .slice ax L.length cx] dp rfl (HB4F.out.both.range) hp1 hp2 pSize) rfl ?_
  have hvz := HVZ.out
  subst hvz
  have hel : L.set (((m : Int) + 1).toNat - 1) (pinV (L.getD (((m : Int) + 1).toNat - 1) ver0) (1)) = L.set m ⟨.slice ah xH.length ch, xH, .slice ar xR.length cr, xR, xp + 1, xg⟩ := by
   rw [HGD.out, show ((m : Int) + 1).toNat - 1 = m by omega]
   rfl
  refine ⟨.slice ax L.length cx, rfl, ?_, ?_, HFIN.out⟩
  rw [← HLF.out]
  first
  | rw [if_pos rfl]
  | rw [if_pos trivial]
  rw [hel]
  exact ⟨Sl.of_own' (enc := encW) encW_len (by rw [List.length_set]; exact HOWN.out), fun y hy => by
   rcases List.mem_or_eq_of_mem_set hy with hy | hy
   ·exact (HS.out.2 y hy).ext HFIN.out
   ·rw [hy]
    have h1 := HXO.out.1
    have h2 := HXO.out.2
    exact ⟨h1.ext HFIN.out, h2.ext HFIN.out⟩⟩
  rw [← HLF.out]
  first
  | rw [if_pos rfl]
  | rw [if_pos trivial]
  rw [hel]
  exact fun hf => ⟨Far.of_own HOWN.out (by decide) (by decide) (by decide), fun y hy => by
   rcases List.mem_or_eq_of_mem_set hy with hy | hy
   ·exact ⟨(hf.2 y hy).1.ext HFIN.out, (hf.2 y hy).2.ext HFIN.out⟩
   ·have hx := hf.2 _ (getD_mem (L := L) (i := ((m : Int) + 1).toNat - 1) (by omega))
    rw [HGD.out] at hx
    rw [hy]
    exact ⟨hx.1.ext HFIN.out, hx.2.ext HFIN.out⟩⟩
 ·have hr := HER.out
  rw [if_pos (.inr hv)] at hr
  subst hr
  obtain ⟨li, hli⟩ : ∃ li : Int, (l : Int) = li := ⟨_, rfl⟩
  rw [hli] at hv ⊢
  have q1 : (v != li) = true := by simpa using hv
  clear hv hle h0 HER hli
  have c0 := HB21.out.c0
  have c1 := HB21.out.c1
  have d0 := HB41.out.c0
  have d1 := HB41.out.c1
  have z0 := HB41.out.fz 0
  have z1 := HB41.out.fz 1
  have hk : Ext w ((W1.setCell ⟨b4, 0, none⟩ (.int .i64 k)).setCell ⟨b4, 1, none⟩ (.slice a L.length cap)) := Keeps.ext EX1.out ((Keeps.of_set (X := fun q => q = b4) W1 b4 0 _ rfl).trans (Keeps.of_set (X := fun q => q = b4) _ b4 1 _ rfl)) (fun q hq => by rw [hq]; exact hw4)
  have HK := hide hk
  clear hk
  go_wp2
  refine bodyPost_ret (results_cell_slot (q := 5) rfl _ _ b4 0 [.int .i64 k, .slice a L.length cap] dp rfl ((HB41.out).both.range) hp1 hp2 pSize) rfl ?_
  exact ⟨.slice a L.length cap, rfl, by rw [← HLF.out, if_neg (by decide)]; exact HS.out.ext HK.out, by rw [← HLF.out, if_neg (by decide)]; exact fun hf => hf.ext HK.out, HK.out⟩
end Go.Proofs.YtkhebanpplokdaaGreatDoor
namespace Go.Proofs.YtkhebanpplokdaaGreatDoor
open Go.ChangeShapes Go.WideShapes Go.ChangeAt Go.RowKit Go.Lib Go.Shelf Go.Maps
set_option maxRecDepth 100000 in
set_option maxHeartbeats 8000000 in
theorem runpin_any (k : Int) (lv : Value) (L : List VerD) (v : Int) (w : World) (hs : VersAt w lv L) (h50 : L.length ≤ 50) (hI : I64 v) (hpb : ∀ x ∈ L, 0 ≤ x.pins ∧ x.pins ≤ 1000000) :
  Calls Tryz.prog 51 #[pVal k lv, .int .i64 v] w fun e w' => ∃ lv', e = .returned (.tuple #[pVal k lv', .int .i64 (if v < 1 ∨ v > (L.length : Int) ∨ (L.getD (v.toNat - 1) ver0).pins = 0 then (17 : Int) else 0)]) ∧ VersAt w' lv' (if (if v < 1 ∨ v > (L.length : Int) ∨ (L.getD (v.toNat - 1) ver0).pins = 0 then (17 : Int) else 0) = 0 then L.set (v.toNat - 1) (pinV (L.getD (v.toNat - 1) ver0) (-1)) else L) ∧ (FarL w lv L → FarL w' lv' (if (if v < 1 ∨ v > (L.length : Int) ∨ (L.getD (v.toNat - 1) ver0).pins = 0 then (17 : Int) else 0) = 0 then L.set (v.toNat - 1) (pinV (L.getD (v.toNat - 1) ver0) (-1)) else L)) ∧ Ext w w' := by
 obtain ⟨hl63, a, cap, rfl⟩ := hs.1.shape
 obtain ⟨dp, hp1, hp2⟩ := pDesc
 have hx : Ext w ((w.alloc (.cells #[.int .i64 k, .slice a L.length cap] 55)).alloc (.cells #[.int .i64 0, .slice none 0 0] 55)) := ((Below.refl _ _).alloc (Nat.le_refl _) _).alloc (Nat.le_of_lt (by simp)) _
 have hb2 : BoxP ((w.alloc (.cells #[.int .i64 k, .slice a L.length cap] 55)).alloc (.cells #[.int .i64 0, .slice none 0 0] 55)) w.heap.size k (.slice a L.length cap) := (Below.heap_alloc _ _ _ (by simp)).trans (heap_alloc_new w _)
 have hb4 : BoxP ((w.alloc (.cells #[.int .i64 k, .slice a L.length cap] 55)).alloc (.cells #[.int .i64 0, .slice none 0 0] 55)) (w.heap.size + 1) 0 (.slice none 0 0) := heap_alloc2_new w _ _
 have HS := hide hs
 have HPB := hide hpb
 obtain ⟨er, her⟩ : ∃ er : Int, (if v < 1 ∨ v > (L.length : Int) ∨ (L.getD (v.toNat - 1) ver0).pins = 0 then (17 : Int) else 0) = er := ⟨_, rfl⟩
 rw [her]
 have HER := hide her
 obtain ⟨LF, hLF⟩ : ∃ z, (if er = 0 then L.set (v.toNat - 1) (pinV (L.getD (v.toNat - 1) ver0) (-1)) else L) = z := ⟨_, rfl⟩
 rw [hLF]
 have HLF := hide hLF
 clear hs hpb her hLF
 show Calls Tryz.prog 51 #[.agg #[.int .i64 k, .slice a L.length cap], .int .i64 v] w _
 go_enter Tryz.func51, Tryz.ntmps51
 go_upto_region 1 with (fail)
 generalize (w.alloc (.cells #[.int .i64 k, .slice a L.length cap] 55)).alloc (.cells #[.int .i64 0, .slice none 0 0] 55) = W at hx hb2 hb4 ⊢
 obtain ⟨b2, hb2e⟩ : ∃ b, w.heap.size = b := ⟨_, rfl⟩
 rw [hb2e] at hb2 hb4 ⊢
 obtain ⟨b4, hb4e⟩ : ∃ b, b2 + 1 = b := ⟨_, rfl⟩
 rw [hb4e] at hb4 ⊢
 have hne : b2 ≠ b4 := by omega
 have hw2 : w.heap.size ≤ b2 := by omega
 have hw4 : w.heap.size ≤ b4 := by omega
 have HX := hide hx
 have HB2 := hide hb2
 have HB4 := hide hb4
 clear hx hb2 hb4 hb2e hb4e
 by_cases h1 : v < 1
 ·have hr := HER.out
  rw [if_pos (.inl h1)] at hr
  subst hr
  have c0 := HB2.out.c0
  have c1 := HB2.out.c1
  have d0 := HB4.out.c0
  have d1 := HB4.out.c1
  have z0 := HB4.out.fz 0
  have z1 := HB4.out.fz 1
  have hk : Ext w ((W.setCell ⟨b4, 0, none⟩ (.int .i64 k)).setCell ⟨b4, 1, none⟩ (.slice a L.length cap)) := Keeps.ext HX.out ((Keeps.of_set (X := fun q => q = b4) W b4 0 _ rfl).trans (Keeps.of_set (X := fun q => q = b4) _ b4 1 _ rfl)) (fun q hq => by rw [hq]; exact hw4)
  have HK := hide hk
  clear hk
  go_wp2
  refine bodyPost_ret (results_cell_slot (q := 5) rfl _ _ b4 0 [.int .i64 k, .slice a L.length cap] dp rfl ((HB4.out).both.range) hp1 hp2 pSize) rfl ?_
  exact ⟨.slice a L.length cap, rfl, by rw [← HLF.out, if_neg (by decide)]; exact HS.out.ext HK.out, by rw [← HLF.out, if_neg (by decide)]; exact fun hf => hf.ext HK.out, HK.out⟩
 by_cases h2 : v > (L.length : Int)
 ·have hr := HER.out
  rw [if_pos (.inr (.inl h2))] at hr
  subst hr
  have c0 := HB2.out.c0
  have c1 := HB2.out.c1
  have d0 := HB4.out.c0
  have d1 := HB4.out.c1
  have z0 := HB4.out.fz 0
  have z1 := HB4.out.fz 1
  have hk : Ext w ((W.setCell ⟨b4, 0, none⟩ (.int .i64 k)).setCell ⟨b4, 1, none⟩ (.slice a L.length cap)) := Keeps.ext HX.out ((Keeps.of_set (X := fun q => q = b4) W b4 0 _ rfl).trans (Keeps.of_set (X := fun q => q = b4) _ b4 1 _ rfl)) (fun q hq => by rw [hq]; exact hw4)
  have HK := hide hk
  clear hk
  go_wp2
  refine bodyPost_ret (results_cell_slot (q := 5) rfl _ _ b4 0 [.int .i64 k, .slice a L.length cap] dp rfl ((HB4.out).both.range) hp1 hp2 pSize) rfl ?_
  exact ⟨.slice a L.length cap, rfl, by rw [← HLF.out, if_neg (by decide)]; exact HS.out.ext HK.out, by rw [← HLF.out, if_neg (by decide)]; exact fun hf => hf.ext HK.out, HK.out⟩
 ·obtain ⟨m, hme⟩ : ∃ m : Nat, v = (m : Int) + 1 := ⟨v.toNat - 1, by omega⟩
  have hm : m < L.length := by omega
  have g1 : ¬ v < 1 := h1
  have g2 : ¬ v > (L.length : Int) := h2
  have EX1 := hide HX.out
  have HB21 := hide HB2.out
  have HB41 := hide HB4.out
  subst hme
  clear h1 h2 HX HB2 HB4
  generalize W = W1 at *
  have hvat := (HS.out.ext EX1.out)
  obtain ⟨b, off, hae, hbb, c60, c61, c62, c63⟩ := vers_at hvat.1 m hm
  have hxo := HS.out.2 _ (List.getElem_mem hm)
  have hpbm := HPB.out _ (List.getElem_mem hm)
  have hgd : L.getD (((m : Int) + 1).toNat - 1) ver0 = L[m] := by
   rw [show ((m : Int) + 1).toNat - 1 = m by omega, List.getD_eq_getElem?_getD, List.getElem?_eq_getElem hm]
   rfl
  have HGD := hide hgd
  obtain ⟨x, hxe⟩ : ∃ x, L[m] = x := ⟨_, rfl⟩
  rw [hxe] at c60 c61 c62 c63 hxo hpbm HGD
  obtain ⟨xh, xH, xr, xR, xp, xg⟩ := x
  obtain ⟨_, ah, ch, h1⟩ := hxo.1.shape
  obtain ⟨_, ar, cr, h2⟩ := hxo.2.shape
  simp only [] at h1 h2 c60 c61 c62 c63 hpbm
  subst h1 h2 hae
  have hw1 : IntKind.i64.wrap ((m : Int) + 1 - 1) = (m : Int) := by rw [IntKind.wrap_i64]; omega
  have hw2 : IntKind.i64.wrap (xp - 1) = xp - 1 := by rw [IntKind.wrap_i64]; omega
  have hmz : (m : Int) < L.length := by omega
  have hm0 : (0 : Int) ≤ m := by omega
  have c0 := HB21.out.c0
  have c1 := HB21.out.c1
  have d0 := HB41.out.c0
  have d1 := HB41.out.c1
  have z0 := HB41.out.fz 0
  have z1 := HB41.out.fz 1
  have hal : Ext W1 (W1.alloc (.cells #[.slice ah xH.length ch, .slice ar xR.length cr, .int .i64 xp, .bool xg] 173)) := (Below.refl _ _).alloc (Nat.le_refl _) _
  have hb6 := heap_alloc_new W1 (.cells #[.slice ah xH.length ch, .slice ar xR.length cr, .int .i64 xp, .bool xg] 173)
  have HXO := hide hxo
  obtain ⟨vz, hvz⟩ : ∃ vz : Int, (m : Int) + 1 = vz := ⟨_, rfl⟩
  rw [hvz] at hw1 g1 g2 HER ⊢
  clear hxo hxe hgd hvat hpbm
  go_upto_region 4 with (fail)
  generalize W1.alloc (.cells #[.slice ah xH.length ch, .slice ar xR.length cr, .int .i64 xp, .bool xg] 173) = W2 at hal hb6 ⊢
  obtain ⟨b6, hb6e⟩ : ∃ b, W1.heap.size = b := ⟨_, rfl⟩
  rw [hb6e] at hb6 ⊢
  clear c60 c61 c62 c63 c0 c1 d0 d1 z0 z1
  have e60 : W2.cell? ⟨b6, 0, none⟩ = some (.slice ah xH.length ch) := by simp only [World.cell?, hb6]; rfl
  have e61 : W2.cell? ⟨b6, 1, none⟩ = some (.slice ar xR.length cr) := by simp only [World.cell?, hb6]; rfl
  have e62 : W2.cell? ⟨b6, 2, none⟩ = some (.int .i64 xp) := by simp only [World.cell?, hb6]; rfl
  have e63 : W2.cell? ⟨b6, 3, none⟩ = some (.bool xg) := by simp only [World.cell?, hb6]; rfl
  have z62 : W2.frozen? ⟨b6, 2, none⟩ = false := by simp [World.frozen?, hb6]
  have h6w : W1.heap.size ≤ b6 := by omega
  have hxs : Ext W1 (W2.setCell ⟨b6, 2, none⟩ (.int .i64 (xp - 1))) := Keeps.ext hal (Keeps.of_set (X := fun q => q = b6) W2 b6 2 _ rfl) (fun q hq => by rw [hq]; exact h6w)
  have hal2 : Ext W1 W2 := hal
  have EX2 := hide (EX1.out.trans hal2)
  have HB22 := hide (HB21.out.ext hal2)
  have HB42 := hide (HB41.out.ext hal2)
  have her := HER.out
  have hgp : (L.getD (vz.toNat - 1) ver0).pins = xp := by
   have h := HGD.out
   rw [hvz] at h
   rw [h]
  rw [hgp] at her
  clear hal2 hgp
  by_cases e0 : xp = 0
  ·have q0 : (xp == 0) = true := by simpa using e0
   rw [if_pos (.inr (.inr e0))] at her
   subst her
   clear e0 HER
   have c0 := HB22.out.c0
   have c1 := HB22.out.c1
   have d0 := HB42.out.c0
   have d1 := HB42.out.c1
   have z0 := HB42.out.fz 0
   have z1 := HB42.out.fz 1
   have hk : Ext w ((W2.setCell ⟨b4, 0, none⟩ (.int .i64 k)).setCell ⟨b4, 1, none⟩ (.slice (some ⟨b, off, none⟩) L.length cap)) := Keeps.ext EX2.out ((Keeps.of_set (X := fun q => q = b4) W2 b4 0 _ rfl).trans (Keeps.of_set (X := fun q => q = b4) _ b4 1 _ rfl)) (fun q hq => by rw [hq]; exact hw4)
   have HK := hide hk
   clear hk
   go_wp2
   refine bodyPost_ret (results_cell_slot (q := 5) rfl _ _ b4 0 [.int .i64 k, .slice (some ⟨b, off, none⟩) L.length cap] dp rfl (HB42.out.both.range) hp1 hp2 pSize) rfl ?_
   exact ⟨.slice (some ⟨b, off, none⟩) L.length cap, rfl, by rw [← HLF.out, if_neg (by decide)]; exact HS.out.ext HK.out, by rw [← HLF.out, if_neg (by decide)]; exact fun hf => hf.ext HK.out, HK.out⟩
  ·have q0 : (xp == 0) = false := by simpa using e0
   rw [if_neg (by omega)] at her
   subst her
   clear e0 HER
   go_upto_region 7 with (fail)
   have f60 : (W2.setCell ⟨b6, 2, none⟩ (.int .i64 (xp - 1))).cell? ⟨b6, 0, none⟩ = some (.slice ah xH.length ch) := (World.cell?_setCell_other W2 ⟨b6, 2, none⟩ ⟨b6, 0, none⟩ _ (fun e => by simp at e)).trans e60
   have f61 : (W2.setCell ⟨b6, 2, none⟩ (.int .i64 (xp - 1))).cell? ⟨b6, 1, none⟩ = some (.slice ar xR.length cr) := (World.cell?_setCell_other W2 ⟨b6, 2, none⟩ ⟨b6, 1, none⟩ _ (fun e => by simp at e)).trans e61
   have f63 : (W2.setCell ⟨b6, 2, none⟩ (.int .i64 (xp - 1))).cell? ⟨b6, 3, none⟩ = some (.bool xg) := (World.cell?_setCell_other W2 ⟨b6, 2, none⟩ ⟨b6, 3, none⟩ _ (fun e => by simp at e)).trans e63
   have f62 : (W2.setCell ⟨b6, 2, none⟩ (.int .i64 (xp - 1))).cell? ⟨b6, 2, none⟩ = some (.int .i64 (xp - 1)) := by
    have hb := ArrB.set hb6 2 (.int .i64 (xp - 1))
    simp only [World.cell?, hb]
    rfl
   generalize W2.setCell ⟨b6, 2, none⟩ (.int .i64 (xp - 1)) = W3 at hxs f60 f61 f62 f63 ⊢
   clear e60 e61 e62 e63 z62 hal hb6
   have HX3 := hide (EX1.out.trans hxs)
   have HB23 := hide (HB21.out.ext hxs)
   have HB43 := hide (HB41.out.ext hxs)
   have c0 := HB23.out.c0
   have c1 := HB23.out.c1
   have hwth := with_any (.slice (some ⟨b, off, none⟩) L.length cap) L m hm ⟨.slice ah xH.length ch, xH, .slice ar xR.length cr, xR, xp - 1, xg⟩ W3 (HS.out.ext HX3.out) ⟨HXO.out.1.ext HX3.out, HXO.out.2.ext HX3.out⟩ h50
   have HWT := hide hwth
   have HVZ := hide hvz
   clear hwth hxs hvz
   go_wp2_with fail
   refine HWT.out.mono ?_
   rintro e W4 ⟨lv', rfl, hown, E4⟩
   have hlt2 := HB23.out.lt
   have hlt4 := HB43.out.lt
   have HB24 := hide (HB23.out.ext E4)
   have HB44 := hide (HB43.out.ext E4)
   have hlvs := owns_shape hown
   obtain ⟨ax, cx, hlve⟩ := hlvs
   subst hlve
   have hk3 : Keeps (fun q => q = b2 ∨ q = b4) W4 (((W4.setCell ⟨b2, 1, none⟩ (.slice ax L.length cx)).setCell ⟨b4, 0, none⟩ (.int .i64 k)).setCell ⟨b4, 1, none⟩ (.slice ax L.length cx)) := ((Keeps.of_set (X := fun q => q = b2 ∨ q = b4) W4 b2 1 _ (.inl rfl)).trans (Keeps.of_set (X := fun q => q = b2 ∨ q = b4) _ b4 0 _ (.inr rfl))).trans (Keeps.of_set (X := fun q => q = b2 ∨ q = b4) _ b4 1 _ (.inr rfl))
   have hfin : Ext w (((W4.setCell ⟨b2, 1, none⟩ (.slice ax L.length cx)).setCell ⟨b4, 0, none⟩ (.int .i64 k)).setCell ⟨b4, 1, none⟩ (.slice ax L.length cx)) := Keeps.ext (HX3.out.trans E4) hk3 (fun q hq => by rcases hq with rfl | rfl <;> omega)
   have hown2 := owns_keeps hown hk3 (fun g hg hq => by
    have := (hown.lt g hg).1
    rcases hq with rfl | rfl <;> omega)
   have HB4F := hide (HB44.out.far (q := b2) (j := 1) (u := .slice ax L.length cx) (fun e => hne e.symm))
   have HFIN := hide hfin
   have HOWN := hide hown2
   have c0 := HB24.out.c0
   have c1 := HB24.out.c1
   have z21 := HB24.out.fz 1
   have d0 := HB44.out.c0
   have d1 := HB44.out.c1
   have z0 := HB44.out.fz 0
   have z1 := HB44.out.fz 1
   clear hk3 hfin hown2 hown E4 f60 f61 f62 f63
   go_wp2
   refine bodyPost_ret (results_cell_slot (q := 5) rfl _ _ b4 0 [.int .i64 k, .slice ax L.length cx] dp rfl (HB4F.out.both.range) hp1 hp2 pSize) rfl ?_
   have hvz := HVZ.out
   subst hvz
   have hel : L.set (((m : Int) + 1).toNat - 1) (pinV (L.getD (((m : Int) + 1).toNat - 1) ver0) (-1)) = L.set m ⟨.slice ah xH.length ch, xH, .slice ar xR.length cr, xR, xp - 1, xg⟩ := by
    rw [HGD.out, show ((m : Int) + 1).toNat - 1 = m by omega]
    rfl
   refine ⟨.slice ax L.length cx, rfl, ?_, ?_, HFIN.out⟩
   rw [← HLF.out]
   first
   | rw [if_pos rfl]
   | rw [if_pos trivial]
   rw [hel]
   exact ⟨Sl.of_own' (enc := encW) encW_len (by rw [List.length_set]; exact HOWN.out), fun y hy => by
    rcases List.mem_or_eq_of_mem_set hy with hy | hy
    ·exact (HS.out.2 y hy).ext HFIN.out
    ·rw [hy]
     have h1 := HXO.out.1
     have h2 := HXO.out.2
     exact ⟨h1.ext HFIN.out, h2.ext HFIN.out⟩⟩
   rw [← HLF.out]
   first
   | rw [if_pos rfl]
   | rw [if_pos trivial]
   rw [hel]
   exact fun hf => ⟨Far.of_own HOWN.out (by decide) (by decide) (by decide), fun y hy => by
    rcases List.mem_or_eq_of_mem_set hy with hy | hy
    ·exact ⟨(hf.2 y hy).1.ext HFIN.out, (hf.2 y hy).2.ext HFIN.out⟩
    ·have hx := hf.2 _ (getD_mem (L := L) (i := ((m : Int) + 1).toNat - 1) (by omega))
     rw [HGD.out] at hx
     rw [hy]
     exact ⟨hx.1.ext HFIN.out, hx.2.ext HFIN.out⟩⟩
end Go.Proofs.YtkhebanpplokdaaGreatDoor
