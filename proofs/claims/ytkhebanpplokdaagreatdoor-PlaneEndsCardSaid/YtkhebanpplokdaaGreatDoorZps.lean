/- Merged texts (RpG, RpH, RpI). -/
import Derived.Test.YtkhebanpplokdaaGreatDoorZpq
import Derived.Test.YtkhebanpplokdaaGreatDoorZpv
namespace Go.Proofs.YtkhebanpplokdaaGreatDoor
open Go.ChangeShapes Go.WideShapes Go.ChangeAt Go.RowKit Go.Lib Go.Shelf Go.Maps
def mayL (x : VerD) : Bool := !x.gone && x.pins == 0
def dropV (x : VerD) : VerD := if mayL x = true then ⟨x.hv, x.H, x.rv, x.R, x.pins, true⟩ else x
def dropL (L : List VerD) (t : Nat) : List VerD := L.mapIdx fun i x => if i < t then dropV x else x
def goneL (L : List VerD) (t : Nat) : List Int := ((List.range t).filter fun i => mayL (L.getD i ver0)).map fun i : Nat => (i : Int) + 1
theorem dropL_len (L : List VerD) (t : Nat) : (dropL L t).length = L.length := by simp [dropL]
theorem dropL_get (L : List VerD) (t i : Nat) (hi : i < L.length) : (dropL L t)[i]'(by rw [dropL_len]; exact hi) = if i < t then dropV L[i] else L[i] := by simp [dropL]
theorem dropL_zero (L : List VerD) : dropL L 0 = L := List.ext_getElem (by simp [dropL]) fun i h1 h2 => by simp [dropL]
theorem getD_at (L : List VerD) {i : Nat} (hi : i < L.length) : L.getD i ver0 = L[i] := by
 rw [List.getD_eq_getElem?_getD, List.getElem?_eq_getElem hi]
 rfl
theorem dropL_succ (L : List VerD) (t : Nat) (ht : t < L.length) : dropL L (t + 1) = (dropL L t).set t (dropV L[t]) := by
 refine List.ext_getElem (by simp [dropL]) fun i h1 h2 => ?_
 have hi : i < L.length := by rw [dropL_len] at h1; exact h1
 rw [List.getElem_set, dropL_get L _ i hi]
 by_cases e : t = i
 ·subst e
  rw [if_pos rfl, if_pos (by omega)]
 ·rw [if_neg e, dropL_get L _ i hi]
  by_cases h : i < t
  ·rw [if_pos h, if_pos (by omega)]
  ·rw [if_neg h, if_neg (by omega)]
theorem dropL_same (L : List VerD) (t : Nat) (ht : t < L.length) (h : mayL L[t] = false) : dropL L (t + 1) = dropL L t := by
 rw [dropL_succ L t ht]
 refine List.ext_getElem (by simp) fun i h1 h2 => ?_
 rw [List.getElem_set]
 split
 ·rename_i e
  subst e
  rw [dropL_get L t t ht, if_neg (by omega)]
  unfold dropV
  rw [h]
  rfl
 ·rfl
theorem goneL_succ (L : List VerD) (t : Nat) : goneL L (t + 1) = if mayL (L.getD t ver0) = true then goneL L t ++ [(t : Int) + 1] else goneL L t := by
 unfold goneL
 rw [List.range_succ, List.filter_append, List.map_append]
 by_cases h : mayL (L.getD t ver0) = true
 ·rw [if_pos h]
  simp only [List.filter_cons, h, if_true, List.filter_nil, List.map_cons, List.map_nil]
 ·rw [if_neg h]
  simp only [List.filter_cons, h, List.filter_nil]
  simp
theorem goneL_len (L : List VerD) (t : Nat) : (goneL L t).length ≤ t := by
 unfold goneL
 rw [List.length_map]
 exact Nat.le_trans (List.length_filter_le _ _) (by simp)
theorem dropV_ok {w : World} {x : VerD} (h : VerOk w x) : VerOk w (dropV x) := by
 unfold dropV
 split
 ·exact h
 ·exact h
theorem dropL_ok {w : World} {L : List VerD} (h : ∀ x ∈ L, VerOk w x) (t : Nat) : ∀ x ∈ dropL L t, VerOk w x := fun x hx => by
 obtain ⟨i, hi, rfl⟩ := List.getElem_of_mem hx
 have hi' : i < L.length := by rw [dropL_len] at hi; exact hi
 rw [dropL_get L t i hi']
 split
 ·exact dropV_ok (h _ (List.getElem_mem hi'))
 ·exact h _ (List.getElem_mem hi')
/-- where the versions of a plane that drops lie -/
def RowD (w wr : World) (B : Nat) (lv lvt : Value) (L : List VerD) (t : Nat) : Prop := (lvt = lv ∧ dropL L t = L) ∨ wr.ownsRow B 173 4 lvt L.length ((dropL L t).flatMap encW)
theorem RowD.at {w wr : World} {B : Nat} {lv lvt : Value} {L : List VerD} {t : Nat} (h : RowD w wr B lv lvt L t) (hs : VersAt w lv L) (e : Ext w wr) : VersAt wr lvt (dropL L t) := by
 rcases h with ⟨rfl, h⟩ | h
 ·rw [h]
  exact hs.ext e
 ·exact ⟨Sl.of_own' (enc := encW) encW_len (by rw [dropL_len]; exact h), fun x hx => (dropL_ok hs.2 t x hx).ext e⟩
theorem RowD.ext {w wr wr' : World} {B : Nat} {lv lvt : Value} {L : List VerD} {t : Nat} (h : RowD w wr B lv lvt L t) (e : Ext wr wr') : RowD w wr' B lv lvt L t := by
 rcases h with h | h
 ·exact .inl h
 ·exact .inr (owns_ext h e)
theorem dropL_far {w : World} {L : List VerD} (h : ∀ x ∈ L, Far w x.hv ∧ Far w x.rv) (t : Nat) : ∀ x ∈ dropL L t, Far w x.hv ∧ Far w x.rv := fun x hx => by
 obtain ⟨i, hi, rfl⟩ := List.getElem_of_mem hx
 have hi' : i < L.length := by rw [dropL_len] at hi; exact hi
 rw [dropL_get L t i hi']
 have h1 := h _ (List.getElem_mem hi')
 split
 ·unfold dropV
  split
  ·exact h1
  ·exact h1
 ·exact h1
theorem RowD.far {w wr : World} {B : Nat} {lv lvt : Value} {L : List VerD} {t : Nat} (h : RowD w wr B lv lvt L t) (hf : FarL w lv L) (e : Ext w wr) : FarL wr lvt (dropL L t) := by
 refine ⟨?_, fun x hx => ⟨(dropL_far hf.2 t x hx).1.ext e, (dropL_far hf.2 t x hx).2.ext e⟩⟩
 rcases h with ⟨rfl, h⟩ | h
 ·exact hf.1.ext e
 ·exact Far.of_own h (by decide) (by decide) (by decide)
theorem VersAt.shape {w : World} {lv : Value} {L : List VerD} (h : VersAt w lv L) : ∃ a c, lv = .slice a L.length c := by
 obtain ⟨_, a, c, h⟩ := h.1.shape
 exact ⟨a, c, h⟩
theorem BoxP.grown {w w' : World} {b B n : Nat} {k : Int} {lv v : Value} {xs : List Value} (h : BoxP w b k lv) (ho : w.ownsRow B 3 1 v n xs) (hg : w.grownBy w' v.ownBlock) : BoxP w' b k lv :=
 (hg.block b h.lt (fun e => absurd (owns_type ho e.symm h) (by decide))).trans h
set_option maxRecDepth 100000 in
set_option maxHeartbeats 16000000 in
theorem rdrop_any (k : Int) (lv : Value) (L : List VerD) (w : World) (hs : VersAt w lv L) (h50 : L.length ≤ 50) :
  Calls Tryz.prog 53 #[pVal k lv] w fun e w' => ∃ lv' v', e = .returned (.tuple #[pVal k lv', v']) ∧ VersAt w' lv' (dropL L (liveT k L L.length - 1)) ∧ (FarL w lv L → FarL w' lv' (dropL L (liveT k L L.length - 1))) ∧ w'.ownsRow w.heap.size 3 1 v' (goneL L (liveT k L L.length - 1)).length ((goneL L (liveT k L L.length - 1)).flatMap encI) ∧ Ext w w' := by
 obtain ⟨dp, hp1, hp2⟩ := pDesc
 obtain ⟨i0, hi, hz0, hz1, hz2⟩ := info_z' infoI'
 obtain ⟨hl63, a, cap, rfl⟩ := hs.1.shape
 have hx : Ext w ((w.alloc (.cells #[.int .i64 k, .slice a L.length cap] 55)).alloc (.cells #[.int .i64 0, .slice none 0 0] 55)) := ((Below.refl _ _).alloc (Nat.le_refl _) _).alloc (Nat.le_of_lt (by simp)) _
 have hb1 : BoxP ((w.alloc (.cells #[.int .i64 k, .slice a L.length cap] 55)).alloc (.cells #[.int .i64 0, .slice none 0 0] 55)) w.heap.size k (.slice a L.length cap) := (Below.heap_alloc _ _ _ (by simp)).trans (heap_alloc_new w _)
 have hb2 : BoxP ((w.alloc (.cells #[.int .i64 k, .slice a L.length cap] 55)).alloc (.cells #[.int .i64 0, .slice none 0 0] 55)) (w.heap.size + 1) 0 (.slice none 0 0) := heap_alloc2_new w _ _
 have HS := hide hs
 have hlive := rlive_any k (.slice a L.length cap) L
 have hle := liveT_le k L L.length
 obtain ⟨lw, hlw⟩ : ∃ l, liveT k L L.length = l := ⟨_, rfl⟩
 rw [hlw] at hlive hle ⊢
 have HLIVE := hide hlive
 clear hs hlive hlw
 show Calls Tryz.prog 53 #[.agg #[.int .i64 k, .slice a L.length cap]] w _
 go_enter Tryz.func53, Tryz.ntmps53
 go_upto_region 1 with (fail)
 generalize (w.alloc (.cells #[.int .i64 k, .slice a L.length cap] 55)).alloc (.cells #[.int .i64 0, .slice none 0 0] 55) = W at hx hb1 hb2 ⊢
 obtain ⟨b1, hb1e⟩ : ∃ b, w.heap.size = b := ⟨_, rfl⟩
 rw [hb1e] at hb1 hb2 ⊢
 obtain ⟨b2, hb2e⟩ : ∃ b, b1 + 1 = b := ⟨_, rfl⟩
 rw [hb2e] at hb2 ⊢
 have hne : b1 ≠ b2 := by omega
 have hw1 : w.heap.size ≤ b1 := by omega
 have hw2 : w.heap.size ≤ b2 := by omega
 have HX := hide hx
 have c0 := hb1.c0
 have c1 := hb1.c1
 have HB1 := hide hb1
 have HB2 := hide hb2
 have HSLV := hide (show VersAt w (.slice a L.length cap) L from HS.out)
 clear hx hb1 hb2 hb1e hb2e
 go_wp2_with fail
 refine (HLIVE.out W (HS.out.ext HX.out)).mono ?_
 rintro e W1 ⟨rfl, E1⟩
 have HX1 := hide (HX.out.trans E1)
 have HB11 := hide (HB1.out.ext E1)
 have HB21 := hide (HB2.out.ext E1)
 clear c0 c1 E1 HX HB1 HB2 HLIVE
 go_wp2_with fail
 go_loopw [5, 6] (fun v5 v6 wr => ∃ (t : Nat) (lvt : Value), (t + 1 ≤ lw ∨ t = 0) ∧ v6 = .int .i64 t ∧ Hid (wr.ownsRow w.heap.size 3 1 v5 (goneL L t).length ((goneL L t).flatMap encI) ∧ BoxP wr b1 k lvt ∧ BoxP wr b2 0 (.slice none 0 0) ∧ RowD w wr (b2 + 1) (.slice a L.length cap) lvt L t ∧ Ext w wr)) (fun _ i _ => lw + 1 - (intOf i).toNat)
 case atStart => exact ⟨0, .slice a L.length cap, .inr rfl, rfl, ⟨⟨by simp [goneL], .inl ⟨rfl, rfl⟩⟩, HB11.out, HB21.out, .inl ⟨rfl, dropL_zero L⟩, HX1.out⟩⟩
 case round =>
  clear HB11 HB21 HX1
  obtain ⟨t, lvt, ht, rfl, hxx⟩ := hrel
  obtain ⟨hoi, hbb1, hbb2, hrow, hext⟩ := hxx.out
  clear hxx
  generalize wr = wo at *
  have hvat := hrow.at HSLV.out hext
  obtain ⟨at_, ct, hlvt⟩ := hvat.shape
  rw [dropL_len] at hlvt
  subst hlvt
  obtain ⟨ao, co, rfl⟩ := owns_shape hoi
  have hgl40 := goneL_len L t
  have HOI := hide hoi
  have HB1 := hide hbb1
  have HB2 := hide hbb2
  have HROW := hide hrow
  have HX := hide hext
  have hlt1 := hbb1.lt
  have hlt2 := hbb2.lt
  have hwsz := hext.size
  clear hoi hbb1 hbb2 hrow hext
  by_cases hlt : t + 1 < lw
  ·have hltz : (t : Int) + 1 < (lw : Int) := by omega
   have hwt : IntKind.i64.wrap ((t : Int) + 1) = ((t + 1 : Nat) : Int) := by rw [IntKind.wrap_i64]; omega
   have hltz2 : ((t + 1 : Nat) : Int) < (lw : Int) := by omega
   have hm : t < L.length := by omega
   have hmz : (t : Int) < L.length := by omega
   have hm0 : (0 : Int) ≤ t := by omega
   obtain ⟨b, off, hae, hbb, c60, c61, c62, c63⟩ := vers_at (by have := hvat.1; exact this) t (by rw [dropL_len]; exact hm)
   have hgd : (dropL L t)[t]'(by rw [dropL_len]; exact hm) = L[t] := by rw [dropL_get L t t hm, if_neg (by omega)]
   rw [hgd] at c60 c61 c62 c63
   have hxo := HSLV.out.2 _ (List.getElem_mem hm)
   have hgs := goneL_succ L t
   rw [getD_at L hm] at hgs
   have hds := dropL_succ L t hm
   have hdsame := dropL_same L t hm
   obtain ⟨x, hxe⟩ : ∃ x, L[t] = x := ⟨_, rfl⟩
   rw [hxe] at c60 c61 c62 c63 hxo hgs hds hdsame
   obtain ⟨xh, xH, xr, xR, xp, xg⟩ := x
   obtain ⟨_, ah, ch, h1⟩ := hxo.1.shape
   obtain ⟨_, ar, cr, h2⟩ := hxo.2.shape
   simp only [] at h1 h2 c60 c61 c62 c63
   subst h1 h2 hae
   have c1 := HB1.out.c1
   have hal : Ext wo (wo.alloc (.cells #[.slice ah xH.length ch, .slice ar xR.length cr, .int .i64 xp, .bool xg] 173)) := (Below.refl _ _).alloc (Nat.le_refl _) _
   have hb7 := heap_alloc_new wo (.cells #[.slice ah xH.length ch, .slice ar xR.length cr, .int .i64 xp, .bool xg] 173)
   have HXO := hide hxo
   have HGS := hide hgs
   have HDS := hide hds
   have HDSAME := hide hdsame
   clear hxo hxe hgd hvat hgs hds hdsame
   go_upto_region 7 with (fail)
   generalize wo.alloc (.cells #[.slice ah xH.length ch, .slice ar xR.length cr, .int .i64 xp, .bool xg] 173) = W2 at hal hb7 ⊢
   obtain ⟨b7, hb7e⟩ : ∃ b, wo.heap.size = b := ⟨_, rfl⟩
   rw [hb7e] at hb7 ⊢
   have e60 : W2.cell? ⟨b7, 0, none⟩ = some (.slice ah xH.length ch) := by simp only [World.cell?, hb7]; rfl
   have e61 : W2.cell? ⟨b7, 1, none⟩ = some (.slice ar xR.length cr) := by simp only [World.cell?, hb7]; rfl
   have e62 : W2.cell? ⟨b7, 2, none⟩ = some (.int .i64 xp) := by simp only [World.cell?, hb7]; rfl
   have e63 : W2.cell? ⟨b7, 3, none⟩ = some (.bool xg) := by simp only [World.cell?, hb7]; rfl
   have z73 : W2.frozen? ⟨b7, 3, none⟩ = false := by simp [World.frozen?, hb7]
   have HOI2 := hide (owns_ext HOI.out hal)
   have HB12 := hide (HB1.out.ext hal)
   have HB22 := hide (HB2.out.ext hal)
   have HROW2 := hide (HROW.out.ext hal)
   have HX2 := hide (HX.out.trans hal)
   have HB7 := hide hb7
   have HAL := hide hal
   clear c60 c61 c62 c63 c1 hal hb7 hbb
   cases xg with
   | true =>
    clear HX HAL HB7
    go_wp2
    go_roundw
    case rel => exact ⟨t + 1, _, .inl (by omega), by go_num, ⟨by rw [HGS.out, if_neg (by simp [mayL])]; exact HOI2.out, HB12.out, HB22.out, by unfold RowD; rw [HDSAME.out rfl]; exact HROW2.out, HX2.out⟩⟩
    case measure => (simp [intOf]) <;> omega
   | false =>
    by_cases h0 : xp = 0
    ·have q0 : (xp == 0) = true := by simpa using h0
     subst h0
     clear q0
     have hyes : mayL ⟨.slice ah xH.length ch, xH, .slice ar xR.length cr, xR, 0, false⟩ = true := rfl
     have hdv : dropV ⟨.slice ah xH.length ch, xH, .slice ar xR.length cr, xR, 0, false⟩ = ⟨.slice ah xH.length ch, xH, .slice ar xR.length cr, xR, 0, true⟩ := by unfold dropV; rw [hyes]; rfl
     have hds := HDS.out
     rw [hdv] at hds
     have HYES := hide hyes
     have HDT := hide hds
     have hks := Keeps.of_set (X := fun q => q = b7) W2 b7 3 (.bool true) rfl
     have hxs : Ext wo (W2.setCell ⟨b7, 3, none⟩ (.bool true)) := Keeps.ext HAL.out hks (fun q hq => by rw [hq]; omega)
     have hb73 := ArrB.set HB7.out 3 (.bool true)
     clear hks hyes hdv hds HDS HDSAME
     go_upto_region 9 with (fail)
     clear e60 e61 e62 e63 z73
     generalize W2.setCell ⟨b7, 3, none⟩ (.bool true) = W3 at hxs hb73 ⊢
     have e60 : W3.cell? ⟨b7, 0, none⟩ = some (.slice ah xH.length ch) := by simp only [World.cell?, hb73]; rfl
     have e61 : W3.cell? ⟨b7, 1, none⟩ = some (.slice ar xR.length cr) := by simp only [World.cell?, hb73]; rfl
     have e62 : W3.cell? ⟨b7, 2, none⟩ = some (.int .i64 0) := by simp only [World.cell?, hb73]; rfl
     have e63 : W3.cell? ⟨b7, 3, none⟩ = some (.bool true) := by simp only [World.cell?, hb73]; rfl
     have HX3 := hide (HX.out.trans hxs)
     have HB13 := hide (HB1.out.ext hxs)
     have HB23 := hide (HB2.out.ext hxs)
     have HOI3 := hide (owns_ext HOI.out hxs)
     have h23 : b2 < W3.heap.size := HB23.out.lt
     have h13 : b1 < W3.heap.size := HB13.out.lt
     have c1 := HB13.out.c1
     have hwth := with_any (.slice (some ⟨b, off, none⟩) L.length ct) (dropL L t) t (by rw [dropL_len]; exact hm) ⟨.slice ah xH.length ch, xH, .slice ar xR.length cr, xR, 0, true⟩ W3 ((HROW.out.ext hxs).at HSLV.out HX3.out) ⟨HXO.out.1.ext HX3.out, HXO.out.2.ext HX3.out⟩ (by rw [dropL_len]; exact h50)
     have HWT := hide hwth
     clear hwth hxs hb73
     go_wp2_with fail
     refine HWT.out.mono ?_
     rintro e W4 ⟨lv', rfl, hown, E4⟩
     rw [dropL_len, ← HDT.out] at hown
     obtain ⟨ax, cx, rfl⟩ := owns_shape hown
     have hb14 := HB13.out.ext E4
     have hb24 := HB23.out.ext E4
     have g1 := hb14.c1
     have z1 := hb14.fz 1
     have hk1 := Keeps.of_set (X := fun q => q = b1) W4 b1 1 (.slice ax L.length cx) rfl
     have hoi5 := owns_keepT (owns_ext HOI3.out E4) hk1 (OfT.one hb14) (by decide)
     have hown5 := owns_keeps hown hk1 (fun g hg hq => by have := (hown.lt g hg).1; omega)
     have hx5 : Ext w (W4.setCell ⟨b1, 1, none⟩ (.slice ax L.length cx)) := Keeps.ext (HX3.out.trans E4) hk1 (fun q hq => by rw [hq]; exact hw1)
     have HOI5 := hide hoi5
     have HOW5 := hide hown5
     have HX5 := hide hx5
     have HB15 := hide (hb14.set1 (.slice ax L.length cx))
     have HB25 := hide (hb24.far (q := b1) (j := 1) (u := .slice ax L.length cx) (fun e => hne e.symm))
     clear hk1 hoi5 hown5 hx5 hb14 hb24 hown E4 e60 e61 e62 e63 c1
     go_upto_region 10 with (fail)
     clear g1 z1
     generalize W4.setCell ⟨b1, 1, none⟩ (.slice ax L.length cx) = W5 at HOI5 HOW5 HX5 HB15 HB25 ⊢
     have hoi := HOI5.out
     have hsz5 := HX5.out.size
     obtain ⟨n, hn⟩ : ∃ n, (goneL L t).length = n := ⟨_, rfl⟩
     rw [hn] at hoi hgl40 ⊢
     have HN := hide hn
     clear hn
     go_wp2_with (at_builtin; refine wpList_append_own _ (by rfl) _ _ 22 (by rfl) w.heap.size 3 i0 (.int .i64 0) 1 8 Tryz.underlying22 hi hz0 hz1 hz2 rfl (by decide) _ n _ (by rfl) (hoi.alloc _) ⟨W5.heap.size, 0, none⟩ 1 1 [.int .i64 ((t + 1 : Nat) : Int)] (by rfl) (by rfl) (cells_new W5 [.int .i64 ((t + 1 : Nat) : Int)] 3) (by simp [Value.oneCell']) (by unfold maxLen; omega) (by omega) (by simp; omega) ?_; intro v2 w2 hown2 hgrow2 _)
     go_roundw
     case rel =>
      have hal5 : Ext W5 (W5.alloc (.cells #[.int .i64 ((t + 1 : Nat) : Int)] 3)) := (Below.refl _ _).alloc (Nat.le_refl _) _
      refine ⟨t + 1, .slice ax L.length cx, .inl (by omega), by go_num, ⟨?_, (HB15.out.ext hal5).grown (hoi.alloc _) hgrow2, (HB25.out.ext hal5).grown (hoi.alloc _) hgrow2, .inr ?_, ext_app HX5.out hal5 hoi hgrow2⟩⟩
      ·rw [HGS.out, if_pos HYES.out, List.length_append, HN.out, List.flatMap_append]
       exact hown2
      ·exact owns_keeps (owns_mono (owns_ext HOW5.out hal5) (by omega)) (Keeps.of_grown hgrow2 (X := fun q => (Value.slice ao n co).ownBlock = some q) (fun q hq => hq)) (owns_ne (owns_ext HOW5.out hal5) (hoi.alloc _) (by decide))
     case measure => (simp [intOf]) <;> omega
    ·have q0 : (xp == 0) = false := by simpa using h0
     have hno : mayL ⟨.slice ah xH.length ch, xH, .slice ar xR.length cr, xR, xp, false⟩ = false := by unfold mayL; simpa using h0
     have HNO := hide hno
     clear h0 hno HX HAL HB7
     go_wp2
     go_roundw
     case rel => exact ⟨t + 1, _, .inl (by omega), by go_num, ⟨by rw [HGS.out, if_neg (by rw [HNO.out]; decide)]; exact HOI2.out, HB12.out, HB22.out, by unfold RowD; rw [HDSAME.out HNO.out]; exact HROW2.out, HX2.out⟩⟩
     case measure => (simp [intOf]) <;> omega
  ·have hte : t = lw - 1 := by omega
   subst hte
   have hnz : ¬ ((lw - 1 : Nat) : Int) + 1 < (lw : Int) := by omega
   have hwt : IntKind.i64.wrap (((lw - 1 : Nat) : Int) + 1) = ((lw - 1 + 1 : Nat) : Int) := by rw [IntKind.wrap_i64]; omega
   have hnz2 : ¬ ((lw - 1 + 1 : Nat) : Int) < (lw : Int) := by omega
   have c0 := HB1.out.c0
   have c1 := HB1.out.c1
   have d0 := HB2.out.c0
   have d1 := HB2.out.c1
   have z0 := HB2.out.fz 0
   have z1 := HB2.out.fz 1
   have hk := (Keeps.of_set (X := fun q => q = b2) wo b2 0 (.int .i64 k) rfl).trans (Keeps.of_set (X := fun q => q = b2) _ b2 1 (.slice at_ L.length ct) rfl)
   have hfin : Ext w ((wo.setCell ⟨b2, 0, none⟩ (.int .i64 k)).setCell ⟨b2, 1, none⟩ (.slice at_ L.length ct)) := Keeps.ext HX.out hk (fun q hq => by rw [hq]; exact hw2)
   have hrf : RowD w ((wo.setCell ⟨b2, 0, none⟩ (.int .i64 k)).setCell ⟨b2, 1, none⟩ (.slice at_ L.length ct)) (b2 + 1) (.slice a L.length cap) (.slice at_ L.length ct) L (lw - 1) := by
    rcases HROW.out with h | h
    ·exact .inl h
    ·exact .inr (owns_keeps h hk (fun g hg hq => by have := (h.lt g hg).1; omega))
   have hoif := owns_keepT HOI.out hk (OfT.one HB2.out) (by decide)
   have hvf := hrf.at HSLV.out hfin
   have HRF := hide hrf
   have HVF := hide hvf
   have HOF := hide hoif
   have HFIN := hide hfin
   have HB2F := hide (HB2.out.both (k' := k) (lv' := .slice at_ L.length ct))
   clear hk hfin hrf hoif hvf hvat hlt hle ht hgl40
   go_wp2
   refine bodyPost_ret (results_cell_slot (q := 3) rfl _ _ b2 0 [.int .i64 k, .slice at_ L.length ct] dp rfl (HB2F.out.range) hp1 hp2 pSize) rfl ?_
   exact ⟨.slice at_ L.length ct, _, rfl, HVF.out, fun hf => HRF.out.far hf HFIN.out, HOF.out, HFIN.out⟩
end Go.Proofs.YtkhebanpplokdaaGreatDoor
namespace Go.Proofs.YtkhebanpplokdaaGreatDoor
open Go.ChangeShapes Go.WideShapes Go.ChangeAt Go.RowKit Go.Lib Go.Shelf Go.Maps
theorem Sim.new (k : Int) : Sim (pl0 k) [] :=
 ⟨rfl, fun i hi => absurd hi (by simp), fun i hi => absurd hi (by simp), fun i hi => absurd hi (by simp), fun i hi => absurd hi (by simp), fun _ _ _ => rfl⟩
theorem Sim.pub {pl : PlD} {L : List VerD} (h : Sim pl L) (b : Nat) : Sim (pubP pl b) (L ++ [ver0]) := by
 have hl := h.len
 have hg : ∀ (i : Nat) (hi : i < (L ++ [ver0]).length), (i < L.length ∧ ∃ hi' : i < L.length, (L ++ [ver0])[i] = L[i] ∧ madeAt (pubP pl b) i = madeAt pl i) ∨ (i = L.length ∧ (L ++ [ver0])[i] = ver0 ∧ madeAt (pubP pl b) i = ⟨some b, 0, 0⟩) := fun i hi => by
  by_cases e : i < L.length
  ·exact .inl ⟨e, e, List.getElem_append_left e, by rw [madeAt_pub, if_pos (by omega)]⟩
  ·have e2 : i = L.length := by simp at hi; omega
   subst e2
   exact .inr ⟨rfl, by simp, by rw [madeAt_pub, if_neg (by omega), if_pos hl.symm]⟩
 refine ⟨by simp [pubP, hl], fun i hi => ?_, fun i hi => ?_, fun i hi => ?_, fun i hi pr => ?_, fun pr v hv => h.out pr v (by simp at hv; omega)⟩
 ·rcases hg i hi with ⟨_, hi', h1, h2⟩ | ⟨_, h1, h2⟩
  ·rw [h1, h2]
   exact h.acks i hi'
  ·rw [h1, h2]
   rfl
 ·rcases hg i hi with ⟨_, hi', h1, h2⟩ | ⟨_, h1, h2⟩
  ·rw [h1, h2]
   exact h.pins i hi'
  ·rw [h1, h2]
   rfl
 ·rcases hg i hi with ⟨_, hi', h1, h2⟩ | ⟨_, h1, h2⟩
  ·rw [h1, h2]
   exact h.gone i hi'
  ·rw [h1, h2]
   rfl
 ·rcases hg i hi with ⟨_, hi', h1, _⟩ | ⟨e, h1, _⟩
  ·rw [h1]
   exact h.said i hi' pr
  ·rw [h1]
   show pl.said (pr, (i : Int) + 1) = 0
   exact h.out pr _ (by omega)
theorem Sim.wasM {pl : PlD} {L : List VerD} (h : Sim pl L) (v : Int) : wasM pl v = true ↔ 1 ≤ v ∧ v ≤ (L.length : Int) := by
 unfold Go.Proofs.YtkhebanpplokdaaGreatDoor.wasM
 rw [h.len]
 simp
/-- one version is another one -/
theorem Sim.set {pl pl' : PlD} {L : List VerD} (h : Sim pl L) (m : Nat) (hm : m < L.length) (x : VerD) (hlen : pl'.V.length = pl.V.length)
  (ho : ∀ i : Nat, i ≠ m → madeAt pl' i = madeAt pl i) (ha : (madeAt pl' m).acks = (x.H.length : Int)) (hp : (madeAt pl' m).pins = x.pins) (hg : (madeAt pl' m).b.isSome = !x.gone)
  (hso : ∀ (i : Nat) (pr : Int), i ≠ m → pl'.said (pr, (i : Int) + 1) = pl.said (pr, (i : Int) + 1)) (hs : ∀ pr : Int, pl'.said (pr, (m : Int) + 1) = if x.H.contains pr = true then 1 else if x.R.contains pr = true then 2 else 0)
  (hout : ∀ pr v : Int, v > (L.length : Int) → pl'.said (pr, v) = 0) : Sim pl' (L.set m x) := by
 have hg' : ∀ (i : Nat) (hi : i < (L.set m x).length), (i = m ∧ (L.set m x)[i] = x) ∨ (i ≠ m ∧ ∃ hi' : i < L.length, (L.set m x)[i] = L[i]) := fun i hi => by
  have hi' : i < L.length := by simpa using hi
  by_cases e : i = m
  ·subst e
   exact .inl ⟨rfl, by simp⟩
  ·exact .inr ⟨e, hi', by rw [List.getElem_set_ne (fun hh => e hh.symm)]⟩
 refine ⟨by rw [hlen, h.len, List.length_set], fun i hi => ?_, fun i hi => ?_, fun i hi => ?_, fun i hi pr => ?_, fun pr v hv => hout pr v (by simpa using hv)⟩
 ·rcases hg' i hi with ⟨rfl, h1⟩ | ⟨e, hi', h1⟩
  ·rw [h1, ha]
  ·rw [h1, ho i e, h.acks i hi']
 ·rcases hg' i hi with ⟨rfl, h1⟩ | ⟨e, hi', h1⟩
  ·rw [h1, hp]
  ·rw [h1, ho i e, h.pins i hi']
 ·rcases hg' i hi with ⟨rfl, h1⟩ | ⟨e, hi', h1⟩
  ·rw [h1, hg]
  ·rw [h1, ho i e, h.gone i hi']
 ·rcases hg' i hi with ⟨rfl, h1⟩ | ⟨e, hi', h1⟩
  ·rw [h1, hs]
  ·rw [h1, hso i pr e, h.said i hi']
theorem sayR_eq {pl : PlD} {L : List VerD} (h : Sim pl L) (pr v : Int) : sayE pl pr v = sayR pl.k L pr v := by
 unfold sayE sayR
 have h1 : isPr pl pr = false ↔ pr < 0 ∨ pr ≥ pl.k := by
  unfold isPr
  by_cases a : 0 ≤ pr <;> by_cases b : pr < pl.k <;> simp [a, b] <;> omega
 by_cases hp : pr < 0 ∨ pr ≥ pl.k
 ·rw [if_pos (h1.2 hp), if_pos hp]
 ·rw [if_neg (fun hh => hp (h1.1 hh)), if_neg hp]
  by_cases hv : v < 1 ∨ v > (L.length : Int)
  ·have : wasM pl v = false := by
    cases hw : wasM pl v with
    | false => rfl
    | true => have := (h.wasM v).1 hw; omega
   rw [if_pos this, if_pos hv]
  ·have hw := (h.wasM v).2 (by omega)
   rw [if_neg (by rw [hw]; decide), if_neg hv]
   obtain ⟨m, rfl⟩ : ∃ m : Nat, v = (m : Int) + 1 := ⟨v.toNat - 1, by omega⟩
   have hm : m < L.length := by omega
   have e : ((m : Int) + 1).toNat - 1 = m := by omega
   rw [e, getD_at L hm, h.said m hm pr]
   cases L[m].H.contains pr <;> cases L[m].R.contains pr <;> simp
theorem sayR_zero {pl : PlD} {L : List VerD} (h : Sim pl L) {pr v : Int} (hs : sayE pl pr v = 0) : ∃ m : Nat, ∃ hm : m < L.length, v = (m : Int) + 1 ∧ L[m].H.contains pr = false ∧ L[m].R.contains pr = false := by
 obtain ⟨h1, h2, h3⟩ := sayE_zero hs
 have hv := (h.wasM v).1 h2
 obtain ⟨m, rfl⟩ : ∃ m : Nat, v = (m : Int) + 1 := ⟨v.toNat - 1, by omega⟩
 have hm : m < L.length := by omega
 refine ⟨m, hm, rfl, ?_⟩
 rw [h.said m hm pr] at h3
 cases ha : L[m].H.contains pr <;> cases hb : L[m].R.contains pr <;> rw [ha, hb] at h3 <;> simp at h3 ⊢
theorem Sim.ack {pl : PlD} {L : List VerD} (h : Sim pl L) (pr v : Int) (hs : sayE pl pr v = 0) (u : Value) : Sim (ackP pl pr v) (L.set (v.toNat - 1) (sayV (L.getD (v.toNat - 1) ver0) true pr u)) := by
 obtain ⟨h1, h2, h3⟩ := sayE_zero hs
 obtain ⟨m, hm, rfl, hH, hR⟩ := sayR_zero h hs
 have e : ((m : Int) + 1).toNat - 1 = m := by omega
 have hma := madeAt_ack pl pr ((m : Int) + 1) h2
 rw [e, getD_at L hm]
 refine h.set m hm _ (by simp [ackP]) (fun i hi => by rw [hma, if_neg (by omega)]) ?_ ?_ ?_ (fun i p hi => ?_) (fun p => ?_) (fun p w hw => ?_)
 ·rw [hma, if_pos rfl]
  show (madeAt pl m).acks + 1 = ((L[m].H ++ [pr]).length : Int)
  rw [h.acks m hm, List.length_append]
  simp
 ·rw [hma, if_pos rfl]
  exact h.pins m hm
 ·rw [hma, if_pos rfl]
  exact h.gone m hm
 ·show (if (p, (i : Int) + 1) = (pr, (m : Int) + 1) then (1 : Int) else pl.said (p, (i : Int) + 1)) = _
  rw [if_neg (by simp only [Prod.mk.injEq]; omega)]
 ·show (if (p, (m : Int) + 1) = (pr, (m : Int) + 1) then (1 : Int) else pl.said (p, (m : Int) + 1)) = if (L[m].H ++ [pr]).contains p = true then 1 else if L[m].R.contains p = true then 2 else 0
  by_cases hp : p = pr
  ·subst hp
   rw [if_pos rfl, if_pos (by simp)]
  ·rw [if_neg (by simp only [Prod.mk.injEq]; exact fun hh => hp hh.1), h.said m hm p]
   have : (L[m].H ++ [pr]).contains p = L[m].H.contains p := by
    rw [Bool.eq_iff_iff, List.contains_iff_mem, List.contains_iff_mem, List.mem_append, List.mem_singleton]
    exact ⟨fun hh => hh.elim id (fun hh => absurd hh hp), .inl⟩
   rw [this]
 ·show (if (p, w) = (pr, (m : Int) + 1) then (1 : Int) else pl.said (p, w)) = 0
  rw [if_neg (by simp only [Prod.mk.injEq]; omega)]
  exact h.out p w hw
theorem Sim.nack {pl : PlD} {L : List VerD} (h : Sim pl L) (pr v : Int) (hs : sayE pl pr v = 0) (u : Value) : Sim (sayP pl pr v 2) (L.set (v.toNat - 1) (sayV (L.getD (v.toNat - 1) ver0) false pr u)) := by
 obtain ⟨m, hm, rfl, hH, hR⟩ := sayR_zero h hs
 have e : ((m : Int) + 1).toNat - 1 = m := by omega
 rw [e, getD_at L hm]
 refine h.set m hm _ rfl (fun i hi => rfl) (h.acks m hm) (h.pins m hm) (h.gone m hm) (fun i p hi => ?_) (fun p => ?_) (fun p w hw => ?_)
 ·show (if (p, (i : Int) + 1) = (pr, (m : Int) + 1) then (2 : Int) else pl.said (p, (i : Int) + 1)) = _
  rw [if_neg (by simp only [Prod.mk.injEq]; omega)]
 ·show (if (p, (m : Int) + 1) = (pr, (m : Int) + 1) then (2 : Int) else pl.said (p, (m : Int) + 1)) = if L[m].H.contains p = true then 1 else if (L[m].R ++ [pr]).contains p = true then 2 else 0
  by_cases hp : p = pr
  ·subst hp
   rw [if_pos rfl, if_neg (by rw [hH]; decide), if_pos (by simp)]
  ·rw [if_neg (by simp only [Prod.mk.injEq]; exact fun hh => hp hh.1), h.said m hm p]
   have : (L[m].R ++ [pr]).contains p = L[m].R.contains p := by
    rw [Bool.eq_iff_iff, List.contains_iff_mem, List.contains_iff_mem, List.mem_append, List.mem_singleton]
    exact ⟨fun hh => hh.elim id (fun hh => absurd hh hp), .inl⟩
   rw [this]
 ·show (if (p, w) = (pr, (m : Int) + 1) then (2 : Int) else pl.said (p, w)) = 0
  rw [if_neg (by simp only [Prod.mk.injEq]; omega)]
  exact h.out p w hw
theorem Sim.pin {pl : PlD} {L : List VerD} (h : Sim pl L) (v d : Int) (hv : 1 ≤ v ∧ v ≤ (L.length : Int)) : Sim (pinP pl v d) (L.set (v.toNat - 1) (pinV (L.getD (v.toNat - 1) ver0) d)) := by
 obtain ⟨m, rfl⟩ : ∃ m : Nat, v = (m : Int) + 1 := ⟨v.toNat - 1, by omega⟩
 have hm : m < L.length := by omega
 have e : ((m : Int) + 1).toNat - 1 = m := by omega
 have hma := madeAt_pin pl ((m : Int) + 1) d hv.1 (by rw [h.len]; exact hv.2)
 rw [e, getD_at L hm]
 refine h.set m hm _ (by simp [pinP]) (fun i hi => by rw [hma, if_neg (by omega)]) ?_ ?_ ?_ (fun i p hi => rfl) (fun p => h.said m hm p) (fun p w hw => h.out p w hw)
 ·rw [hma, if_pos rfl]
  exact h.acks m hm
 ·rw [hma, if_pos rfl]
  show (madeAt pl m).pins + d = L[m].pins + d
  rw [h.pins m hm]
 ·rw [hma, if_pos rfl]
  exact h.gone m hm
theorem pinE_eq {pl : PlD} {L : List VerD} (h : Sim pl L) (v : Int) : pinE pl v = if v = 0 ∨ v ≠ (liveT pl.k L L.length : Nat) then (17 : Int) else 0 := by
 unfold pinE
 rw [liveT_live h]
theorem unpE_eq {pl : PlD} {L : List VerD} (h : Sim pl L) (v : Int) : unpE pl v = if v < 1 ∨ v > (L.length : Int) ∨ (L.getD (v.toNat - 1) ver0).pins = 0 then (17 : Int) else 0 := by
 unfold unpE
 by_cases hv : 1 ≤ v ∧ v ≤ (L.length : Int)
 ·rw [if_neg (by rw [(h.wasM v).2 hv]; decide)]
  obtain ⟨m, rfl⟩ : ∃ m : Nat, v = (m : Int) + 1 := ⟨v.toNat - 1, by omega⟩
  have hm : m < L.length := by omega
  have e : ((m : Int) + 1).toNat - 1 = m := by omega
  rw [e, getD_at L hm, h.pins m hm]
  by_cases h0 : L[m].pins = 0
  ·rw [if_pos h0, if_pos (.inr (.inr h0))]
  ·rw [if_neg h0, if_neg (by omega)]
 ·have : wasM pl v = false := by
   cases hw : wasM pl v with
   | false => rfl
   | true => exact absurd ((h.wasM v).1 hw) hv
  rw [if_pos this, if_pos (by omega)]
theorem mayDrop_eq {pl : PlD} {L : List VerD} (h : Sim pl L) (i : Nat) (hi : i < L.length) : mayDrop (madeAt pl i) = mayL L[i] := by
 unfold mayDrop mayL
 rw [h.gone i hi, h.pins i hi]
theorem goneN_eq {pl : PlD} {L : List VerD} (h : Sim pl L) (t : Nat) (ht : t ≤ L.length) : goneN pl t = goneL L t := by
 unfold goneN goneL
 congr 1
 refine List.filter_congr fun i hi => ?_
 have := List.mem_range.1 hi
 rw [mayDrop_eq h i (by omega), getD_at L (by omega)]
theorem Sim.drop {pl : PlD} {L : List VerD} (h : Sim pl L) (t : Nat) : Sim (dropN pl t) (dropL L t) := by
 have hl := h.len
 refine ⟨by rw [dropN_len, dropL_len, hl], fun i hi => ?_, fun i hi => ?_, fun i hi => ?_, fun i hi pr => ?_, fun pr v hv => h.out pr v (by rw [dropL_len] at hv; exact hv)⟩
 all_goals
  have hi' : i < L.length := by rw [dropL_len] at hi; exact hi
  rw [dropL_get L t i hi']
 ·rw [madeAt_drop pl t i (by omega)]
  split
  ·rw [dropM_acks, h.acks i hi']
   unfold dropV
   split <;> rfl
  ·exact h.acks i hi'
 ·rw [madeAt_drop pl t i (by omega)]
  split
  ·rw [dropM_pins, h.pins i hi']
   unfold dropV
   split <;> rfl
  ·exact h.pins i hi'
 ·rw [madeAt_drop pl t i (by omega)]
  split
  ·have hg := h.gone i hi'
   have hp := h.pins i hi'
   unfold dropM dropV mayL
   by_cases h0 : L[i].pins = 0
   ·rw [if_pos (by rw [hp]; exact h0)]
    cases hgn : L[i].gone <;> simp [h0, hgn]
   ·rw [if_neg (by rw [hp]; exact h0), if_neg (by simp [h0])]
    exact hg
  ·exact h.gone i hi'
 ·show pl.said (pr, (i : Int) + 1) = _
  split
  ·have e1 : (dropV L[i]).H = L[i].H := by unfold dropV; split <;> rfl
   have e2 : (dropV L[i]).R = L[i].R := by unfold dropV; split <;> rfl
   rw [h.said i hi' pr, e1, e2]
  ·exact h.said i hi' pr
end Go.Proofs.YtkhebanpplokdaaGreatDoor
namespace Go.Proofs.YtkhebanpplokdaaGreatDoor
open Go.ChangeShapes Go.WideShapes Go.ChangeAt Go.RowKit Go.Lib Go.Shelf Go.Maps
/-- what both planes are: alike, of at most M versions and words -/
structure Both (pl : PlD) (L : List VerD) (M : Nat) : Prop where
 sim : Sim pl L
 len : L.length ≤ M
 words : ∀ x ∈ L, x.H.length ≤ M ∧ x.R.length ≤ M
 pins : ∀ x ∈ L, 0 ≤ x.pins ∧ x.pins ≤ M
theorem Both.ackb {pl : PlD} {L : List VerD} {M : Nat} (h : Both pl L M) (hM : M ≤ 1000) : ∀ m ∈ pl.V, 0 ≤ m.acks ∧ m.acks ≤ 1000000 := fun m hm => by
 obtain ⟨i, hi, rfl⟩ := List.getElem_of_mem hm
 have hi' : i < L.length := by rw [← h.sim.len]; exact hi
 rw [← madeAt_eq pl hi, h.sim.acks i hi']
 have := (h.words _ (List.getElem_mem hi')).1
 omega
theorem Both.pinb {pl : PlD} {L : List VerD} {M : Nat} (h : Both pl L M) (hM : M ≤ 1000) : ∀ m ∈ pl.V, 0 ≤ m.pins ∧ m.pins ≤ 1000000 := fun m hm => by
 obtain ⟨i, hi, rfl⟩ := List.getElem_of_mem hm
 have hi' : i < L.length := by rw [← h.sim.len]; exact hi
 rw [← madeAt_eq pl hi, h.sim.pins i hi']
 have := h.pins _ (List.getElem_mem hi')
 omega
theorem Both.mono {pl : PlD} {L : List VerD} {M M' : Nat} (h : Both pl L M) (hM : M ≤ M') : Both pl L M' :=
 ⟨h.sim, Nat.le_trans h.len hM, fun x hx => ⟨Nat.le_trans (h.words x hx).1 hM, Nat.le_trans (h.words x hx).2 hM⟩, fun x hx => ⟨(h.pins x hx).1, by have := (h.pins x hx).2; omega⟩⟩
theorem Both.new (k : Int) : Both (pl0 k) [] 0 := ⟨Sim.new k, Nat.le_refl _, fun x hx => (by cases hx), fun x hx => (by cases hx)⟩
theorem Both.pub {pl : PlD} {L : List VerD} {M : Nat} (h : Both pl L M) (b : Nat) : Both (pubP pl b) (L ++ [ver0]) (M + 1) := by
 have h' := h.mono (Nat.le_succ M)
 refine ⟨h.sim.pub b, by have := h.len; simp; omega, fun x hx => ?_, fun x hx => ?_⟩
 ·rcases List.mem_append.1 hx with hx | hx
  ·exact h'.words x hx
  ·rw [List.mem_singleton.1 hx]
   exact ⟨Nat.zero_le _, Nat.zero_le _⟩
 ·rcases List.mem_append.1 hx with hx | hx
  ·exact h'.pins x hx
  ·rw [List.mem_singleton.1 hx]
   show (0 : Int) ≤ 0 ∧ (0 : Int) ≤ ((M + 1 : Nat) : Int)
   omega
theorem Both.setV {pl pl' : PlD} {L : List VerD} {M i : Nat} {x : VerD} (h : Both pl L M) (hs : Sim pl' (L.set i x)) (hw : x.H.length ≤ M + 1 ∧ x.R.length ≤ M + 1) (hp : 0 ≤ x.pins ∧ x.pins ≤ ((M + 1 : Nat) : Int)) : Both pl' (L.set i x) (M + 1) := by
 have h' := h.mono (Nat.le_succ M)
 refine ⟨hs, by rw [List.length_set]; exact h'.len, fun y hy => ?_, fun y hy => ?_⟩
 ·rcases List.mem_or_eq_of_mem_set hy with hy | hy
  ·exact h'.words y hy
  ·rw [hy]; exact hw
 ·rcases List.mem_or_eq_of_mem_set hy with hy | hy
  ·exact h'.pins y hy
  ·rw [hy]; exact hp
theorem Both.say {pl pl' : PlD} {L : List VerD} {M : Nat} (h : Both pl L M) {i : Nat} (hi : i < L.length) (has : Bool) (pr : Int) (u : Value) (hs : Sim pl' (L.set i (sayV (L.getD i ver0) has pr u))) : Both pl' (L.set i (sayV (L.getD i ver0) has pr u)) (M + 1) := by
 have h1 := h.words _ (getD_mem hi)
 have h2 := h.pins _ (getD_mem hi)
 refine h.setV hs ?_ ?_
 ·cases has
  ·exact ⟨Nat.le_trans h1.1 (Nat.le_succ M), by show ((L.getD i ver0).R ++ [pr]).length ≤ M + 1; rw [List.length_append]; exact Nat.succ_le_succ h1.2⟩
  ·exact ⟨by show ((L.getD i ver0).H ++ [pr]).length ≤ M + 1; rw [List.length_append]; exact Nat.succ_le_succ h1.1, Nat.le_trans h1.2 (Nat.le_succ M)⟩
 ·cases has
  ·show 0 ≤ (L.getD i ver0).pins ∧ (L.getD i ver0).pins ≤ ((M + 1 : Nat) : Int)
   omega
  ·show 0 ≤ (L.getD i ver0).pins ∧ (L.getD i ver0).pins ≤ ((M + 1 : Nat) : Int)
   omega
theorem Both.pin {pl : PlD} {L : List VerD} {M : Nat} (h : Both pl L M) (v d : Int) (hv : 1 ≤ v ∧ v ≤ (L.length : Int)) (hd : d = 1 ∨ (d = -1 ∧ (L.getD (v.toNat - 1) ver0).pins ≠ 0)) : Both (pinP pl v d) (L.set (v.toNat - 1) (pinV (L.getD (v.toNat - 1) ver0) d)) (M + 1) := by
 have hi : v.toNat - 1 < L.length := by omega
 have h1 := h.words _ (getD_mem hi)
 have h2 := h.pins _ (getD_mem hi)
 refine h.setV (h.sim.pin v d hv) ⟨Nat.le_trans h1.1 (Nat.le_succ M), Nat.le_trans h1.2 (Nat.le_succ M)⟩ ?_
 show 0 ≤ (L.getD (v.toNat - 1) ver0).pins + d ∧ (L.getD (v.toNat - 1) ver0).pins + d ≤ ((M + 1 : Nat) : Int)
 omega
theorem Both.drop {pl : PlD} {L : List VerD} {M : Nat} (h : Both pl L M) (t : Nat) : Both (dropN pl t) (dropL L t) M := by
 refine ⟨h.sim.drop t, by rw [dropL_len]; exact h.len, fun x hx => ?_, fun x hx => ?_⟩
 all_goals
  obtain ⟨i, hi, rfl⟩ := List.getElem_of_mem hx
  have hi' : i < L.length := by rw [dropL_len] at hi; exact hi
  rw [dropL_get L t i hi']
  have h1 := h.words _ (List.getElem_mem hi')
  have h2 := h.pins _ (List.getElem_mem hi')
  split
  ·unfold dropV
   split
   ·first | exact h1 | exact h2
   ·first | exact h1 | exact h2
  ·first | exact h1 | exact h2
end Go.Proofs.YtkhebanpplokdaaGreatDoor
