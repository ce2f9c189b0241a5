/- Merged texts (SnF, SnG, SnH, SwA). -/
import Derived.Test.YtofjcokclegkhaaGreatDoorSnE
import Derived.Test.YtofjcokclegkhaaGreatDoorZcy
import Derived.Test.YtofjcokclegkhaaGreatDoorZhr
/- Configurations that are made of numbers are right; ref16.IDs (printed by wip/gen_snf.py). -/
namespace Go.Proofs.YtofjcokclegkhaaGreatDoor
open Go.ChangeShapes Go.WideShapes Go.ChangeAt Go.RowKit Go.Lib Go.Shelf Go.Maps
theorem fit_core {c : ConfD} (h : ConfFit c.core) : ConfFit c := by
 obtain ⟨h1, h2, h3, h4, h5, h6, h7⟩ := h
 refine ⟨fun s hs => ?_, h2, fun r hr => ?_, ?_, h5, ?_, h7⟩
 ·have := h1 s.core (List.mem_map.2 ⟨s, hs, rfl⟩)
  exact this
 ·have := h3 r.core (List.mem_map.2 ⟨r, hr, rfl⟩)
  exact this
 ·have : (c.S.map SvcD.core).length ≤ 1000 := h4
  simpa using this
 ·have : (c.R.map RuleD.core).length ≤ 1000 := h6
  simpa using this
theorem good_conf {c : ConfD} {L : List Int} (h : c.core = genC L) : ConfFit c ∧ chkC c = 0 ∧ c.E.length ≤ 10 := by
 refine ⟨fit_core (h ▸ genC_fit L), by rw [← chkC_core, h, genC_right], ?_⟩
 have e : c.E = (genC L).E := by
  have : c.core.E = (genC L).E := by rw [h]
  exact this
 rw [e]
 have hm := svcsM_bd L
 show (endsA L (svcsM L) ++ endsZ L (svcsM L) (endsM L)).length ≤ 10
 rw [List.length_append, endsA_len, endsZ_len]
 unfold endsM
 omega
/-- other endpoints -/
theorem chkC_E {c : ConfD} (h : chkC c = 0) (v : Value) (E : List EndD) (hE : allAt (fun a e => endB a c.S e) [] E = true) (hl : E.length ≤ 40) : chkC { c with ev := v, E := E } = 0 := by
 obtain ⟨h1, h2, h3, h4, h5, h6, h7⟩ := chkC_ends h
 have h8 : ¬ c.T.all rateB = false ∧ ¬ watchB c = false ∧ ¬ numB c = false := by
  unfold chkC at h
  rw [if_neg (by omega), if_neg (by rw [h4]; decide), if_neg (by rw [h5]; decide), if_neg (by omega), if_neg (by rw [h7]; decide)] at h
  split at h
  ·cases h
  ·split at h
   ·cases h
   ·split at h
    ·cases h
    ·exact ⟨by assumption, by assumption, by assumption⟩
 unfold chkC
 show (if 10 < c.S.length ∨ 40 < E.length ∨ 4 < c.T.length then 2 else if allAt svcB [] c.S = false then 13 else if allAt (fun a e => endB a c.S e) [] E = false then 14 else if nerr c.R c.T.length ≠ 0 then nerr c.R c.T.length else if c.R.all (leadB c.S) = false then 13 else if c.T.all rateB = false then 15 else if watchB c = false then 8 else if numB c = false then 8 else 0) = 0
 rw [if_neg (by omega), if_neg (by rw [h4]; decide), if_neg (by rw [hE]; decide), if_neg (by omega), if_neg (by rw [h7]; decide), if_neg h8.1, if_neg h8.2.1, if_neg h8.2.2]
theorem fit_E {c : ConfD} (h : ConfFit c) (v : Value) (E : List EndD) (hE : ∀ e ∈ E, EndFit e) (hl : E.length ≤ 1000) : ConfFit { c with ev := v, E := E } := ⟨h.1, hE, h.2.2.1, h.2.2.2.1, hl, h.2.2.2.2.2⟩
theorem ints_nil (w : World) : Ints w (.slice none 0 0) [] := ⟨by simp, none, 0, rfl, by simp, fun i x hi => by simp at hi⟩
set_option maxRecDepth 100000 in
set_option maxHeartbeats 2000000 in
theorem rids_any (E : List EndD) (v : Value) (w : World) (hs : Ends w v E) (hl : E.length ≤ 1000000) :
  Calls Tryz.prog 21 #[v] w fun e w' => ∃ v', e = .returned v' ∧ w'.ownsRow w.heap.size 3 1 v' E.length ((E.map EndD.id).flatMap encI) ∧ Ext w w' := by
 obtain ⟨hl', a, cap, rfl⟩ := hs.shape
 obtain ⟨i0, hi, hz0, hz1, hz2⟩ := info_z' infoI'
 have HC := hide hs
 clear hs
 go_enter Tryz.func21, Tryz.ntmps21
 go_wp2
 go_loopw [3, 4] (fun v i wr => ∃ k : Nat, k ≤ E.length ∧ i = .int .i64 k ∧ wr.ownsRow w.heap.size 3 1 v k (((E.take k).map EndD.id).flatMap encI) ∧ Ext w wr) (fun _ i _ => E.length - (intOf i).toNat)
 case atStart => exact ⟨0, Nat.zero_le _, rfl, ⟨by simp, .inl ⟨rfl, rfl⟩⟩, Below.refl _ _⟩
 case round =>
  obtain ⟨k, hk, rfl, hown, hext⟩ := hrel
  by_cases hlt : k < E.length
  ·have hltz : (k : Int) < E.length := by omega
   have hwk : IntKind.i64.wrap ((k : Int) + 1) = ((k + 1 : Nat) : Int) := by rw [IntKind.wrap_i64]; omega
   obtain ⟨b, off, rfl, hbb, c1, c2, c3⟩ := ends_at (HC.out.ext hext) k hlt
   have hsn : (((E.take (k + 1)).map EndD.id).flatMap encI) = (((E.take k).map EndD.id).flatMap encI) ++ [.int .i64 E[k].id] := by rw [take_snoc E k hlt, List.map_append, List.flatMap_append]; rfl
   generalize E[k] = x at c1 c2 c3 hsn
   obtain ⟨x1, x2, x3⟩ := x
   simp only [] at c1 c2 c3 hsn
   have hsz := hext.size
   have HSN := hide hsn
   have HX := hide hext
   clear hsn hext
   go_wp2_with (at_builtin; refine wpList_append_own _ (by rfl) _ _ 22 (by rfl) w.heap.size 3 i0 (.int .i64 0) 1 8 Tryz.underlying22 hi hz0 hz1 hz2 rfl (by decide) _ k _ (by rfl) (hown.alloc _) ⟨wr.heap.size, 0, none⟩ 1 1 [.int .i64 x1] (by rfl) (by rfl) (cells_new wr [.int .i64 x1] 3) (by simp [Value.oneCell']) (by unfold maxLen; omega) (by omega) (by simp; omega) ?_; intro v2 w2 hown2 hgrow2 _)
   go_roundw
   case rel => exact ⟨k + 1, hlt, by go_num, by rw [HSN.out]; exact hown2, ext_app HX.out ((Below.refl _ _).alloc (Nat.le_refl _) _) hown hgrow2⟩
   case measure => simp [intOf]; omega
  ·obtain rfl : k = E.length := by omega
   rw [List.take_length] at hown
   go_wp2
   go_ret
   exact ⟨_, rfl, hown, hext⟩
end Go.Proofs.YtofjcokclegkhaaGreatDoor
/- Layer 16: the document's example (printed by wip/gen_snf.py). -/
namespace Go.Proofs.YtofjcokclegkhaaGreatDoor
open Go.ChangeShapes Go.WideShapes Go.ChangeAt Go.RowKit Go.Lib Go.Shelf Go.Maps
set_option maxRecDepth 100000 in
set_option maxHeartbeats 16000000 in
theorem lives16_any (w : World) (hm : MaxV w) : Calls Tryz.prog 13 #[] w fun e w' => e = .returned (.bool true) ∧ Ext w w' := by
 obtain ⟨cd, hcd1, hcd2⟩ := Tryz.confDesc
 have HM := hide hm
 clear hm
 go_enter Tryz.func13, Tryz.ntmps13
 go_wp2_with fail
 refine (conf_any [] (.slice none 0 0) w (ints_nil w) (fun _ h => by cases h)).mono ?_
 rintro e W1 ⟨c, rfl, hc, ho, E1⟩
 have hbz := heap_alloc_new W1 (.cells #[.slice none 0 0, .slice none 0 0, .slice none 0 0, .slice none 0 0, .int .i64 0, .int .i64 0, .int .i64 0, .int .i64 0, .int .i64 0, .int .i64 0, .int .i64 0, .int .i64 0, .int .i64 0, .int .i64 0, .int .i64 0, .int .i64 0, .int .i64 0, .int .i64 0, .int .i64 0, .int .i64 0] 30)
 have hxz : Ext W1 (W1.alloc (.cells #[.slice none 0 0, .slice none 0 0, .slice none 0 0, .slice none 0 0, .int .i64 0, .int .i64 0, .int .i64 0, .int .i64 0, .int .i64 0, .int .i64 0, .int .i64 0, .int .i64 0, .int .i64 0, .int .i64 0, .int .i64 0, .int .i64 0, .int .i64 0, .int .i64 0, .int .i64 0, .int .i64 0] 30)) := (Below.refl _ _).alloc (Nat.le_refl _) _
 have hth : (W1.alloc (.cells #[.slice none 0 0, .slice none 0 0, .slice none 0 0, .slice none 0 0, .int .i64 0, .int .i64 0, .int .i64 0, .int .i64 0, .int .i64 0, .int .i64 0, .int .i64 0, .int .i64 0, .int .i64 0, .int .i64 0, .int .i64 0, .int .i64 0, .int .i64 0, .int .i64 0, .int .i64 0, .int .i64 0] 30)).there W1.heap.size 0 20 := fun q hq => by
  rw [Nat.zero_add]
  refine ⟨?_, by simp only [World.frozen?]; rw [hbz]; simp⟩
  simp only [World.cell?, hbz]
  simp [hq]
 go_upto_region 2 with (refine wpList_store_mid rfl 30 (.tmp 1) (.tmp 9) rfl W1.heap.size 0 (encC c).toArray rfl rfl hth Tryz.confSize (all_oneCell_toArray (encC_one' ho)) ?_)
 generalize W1.alloc (.cells #[.slice none 0 0, .slice none 0 0, .slice none 0 0, .slice none 0 0, .int .i64 0, .int .i64 0, .int .i64 0, .int .i64 0, .int .i64 0, .int .i64 0, .int .i64 0, .int .i64 0, .int .i64 0, .int .i64 0, .int .i64 0, .int .i64 0, .int .i64 0, .int .i64 0, .int .i64 0, .int .i64 0] 30) = Wz at hbz hxz hth ⊢
 obtain ⟨b1, hbe⟩ : ∃ b, W1.heap.size = b := ⟨_, rfl⟩
 rw [hbe] at hbz hth ⊢
 have hbb1 : w.heap.size ≤ b1 := by have := (E1).size; omega
 have hrs := World.rangeAt_setCells_same Wz b1 0 (encC c) hth
 obtain ⟨cs, hcs1, hcs2⟩ := setCells_block b1 30 (0, 0) (encC c) 0 Wz _ hbz
 have hk5 := keeps_setCells b1 (encC c) 0 Wz
 show Code.wp _ _ _ _ (Wz.setCells b1 0 (encC c))
 generalize Wz.setCells b1 0 (encC c) = W2 at hrs hk5 hcs1 ⊢
 have HB1 := hide (show BoxC W2 b1 c from BoxC.of_range hcs1 (by rw [hcs2]; rfl) hrs)
 have HX1 := hide (Keeps.ext ((E1).trans hxz) hk5 (fun g hg => by omega))
 have HO1 := hide (((ho).ext hxz).keepT hk5 (OfT.one hbz) (by decide) (by decide) (by decide) (by decide) (by decide) (by decide) (by decide))
 have hGb1 : W1.heap.size ≤ b1 := by omega
 have hEb1 : Ext W1 W2 := ((Keeps.of_ext hxz).trans hk5 : Keeps (fun g => g = b1) W1 W2).below (Nat.le_refl _) (fun g hg => by omega)
 clear hrs hk5 hcs1 hcs2 hbz hxz hth
 have hc1 : W2.cell? ⟨b1, 1, none⟩ = some c.ev := HB1.out.cell 1 _ rfl
 have hz1 : W2.frozen? ⟨b1, 1, none⟩ = false := HB1.out.frozen 1
 have hbw := HB1.out.lt
 go_upto_region 3 with (fail)
 have hsz : (W2.setCell ⟨b1, 1, none⟩ (.slice (some ⟨W2.heap.size, 0, none⟩) 2 2)).heap.size = W2.heap.size := by simp [World.setCell]
 have hlit := World.ownsRow_lit (base := w.heap.size) (e := 40) (size := 3) (W2.setCell ⟨b1, 1, none⟩ (.slice (some ⟨W2.heap.size, 0, none⟩) 2 2)) #[.int .i64 3, .int .i64 1, .int .i64 1, .int .i64 2, .int .i64 1, .int .i64 1] 2 (by rw [hsz]; exact HX1.out.size) (by unfold maxLen; omega) rfl
 rw [hsz] at hlit
 have hks := Keeps.of_set (X := fun g => g = b1) W2 b1 1 (.slice (some ⟨W2.heap.size, 0, none⟩) 2 2) rfl
 have hal : Ext (W2.setCell ⟨b1, 1, none⟩ (.slice (some ⟨W2.heap.size, 0, none⟩) 2 2)) ((W2.setCell ⟨b1, 1, none⟩ (.slice (some ⟨W2.heap.size, 0, none⟩) 2 2)).alloc (.cells #[.int .i64 3, .int .i64 1, .int .i64 1, .int .i64 2, .int .i64 1, .int .i64 1] 40)) := (Below.refl _ _).alloc (Nat.le_refl _) _
 have hbs := (HB1.out.set (c' := { c with ev := .slice (some ⟨W2.heap.size, 0, none⟩) 2 2, E := [⟨3, 1, 1⟩, ⟨2, 1, 1⟩] }) 1 (.slice (some ⟨W2.heap.size, 0, none⟩) 2 2) rfl).ext hal
 have hos := ((HO1.out.keepT hks (OfT.one HB1.out) (by decide) (by decide) (by decide) (by decide) (by decide) (by decide) (by decide))).ext hal
 generalize (W2.setCell ⟨b1, 1, none⟩ (.slice (some ⟨W2.heap.size, 0, none⟩) 2 2)).alloc (.cells #[.int .i64 3, .int .i64 1, .int .i64 1, .int .i64 2, .int .i64 1, .int .i64 1] 40) = W3 at hlit hal hbs hos ⊢
 obtain ⟨c1, hcn⟩ : ∃ c' : ConfD, ({ c with ev := .slice (some ⟨W2.heap.size, 0, none⟩) 2 2, E := [⟨3, 1, 1⟩, ⟨2, 1, 1⟩] } : ConfD) = c' := ⟨_, rfl⟩
 have HX2 := hide ((Keeps.ext HX1.out hks (fun g hg => by omega)).trans hal)
 have HO2 := hide (show ConfOwn w.heap.size W3 c1 from by
  rw [← hcn]
  exact ⟨owns_mono hos.s (Nat.le_refl _), hos.k, hlit, hos.r, hos.rr, hos.t⟩)
 rw [hcn] at hbs
 have HB2 := hide hbs
 have HCc1 := hide hcn
 have hFb1 : Keeps (fun g => g = b1) W2 W3 := hks.trans (Keeps.of_ext hal)
 clear hbs hos hlit hal hks hsz hc1 hz1 hcn hbw
 have HCC := hide hc
 clear hc ho E1 HB1 HO1 HX1 hEb1
 go_wp2_with fail
 refine (conf_any [] (.slice none 0 0) W3 (ints_nil _) (fun _ h => by cases h)).mono ?_
 rintro e W4 ⟨d, rfl, hd, ho, E4⟩
 have hbz := heap_alloc_new W4 (.cells #[.slice none 0 0, .slice none 0 0, .slice none 0 0, .slice none 0 0, .int .i64 0, .int .i64 0, .int .i64 0, .int .i64 0, .int .i64 0, .int .i64 0, .int .i64 0, .int .i64 0, .int .i64 0, .int .i64 0, .int .i64 0, .int .i64 0, .int .i64 0, .int .i64 0, .int .i64 0, .int .i64 0] 30)
 have hxz : Ext W4 (W4.alloc (.cells #[.slice none 0 0, .slice none 0 0, .slice none 0 0, .slice none 0 0, .int .i64 0, .int .i64 0, .int .i64 0, .int .i64 0, .int .i64 0, .int .i64 0, .int .i64 0, .int .i64 0, .int .i64 0, .int .i64 0, .int .i64 0, .int .i64 0, .int .i64 0, .int .i64 0, .int .i64 0, .int .i64 0] 30)) := (Below.refl _ _).alloc (Nat.le_refl _) _
 have hth : (W4.alloc (.cells #[.slice none 0 0, .slice none 0 0, .slice none 0 0, .slice none 0 0, .int .i64 0, .int .i64 0, .int .i64 0, .int .i64 0, .int .i64 0, .int .i64 0, .int .i64 0, .int .i64 0, .int .i64 0, .int .i64 0, .int .i64 0, .int .i64 0, .int .i64 0, .int .i64 0, .int .i64 0, .int .i64 0] 30)).there W4.heap.size 0 20 := fun q hq => by
  rw [Nat.zero_add]
  refine ⟨?_, by simp only [World.frozen?]; rw [hbz]; simp⟩
  simp only [World.cell?, hbz]
  simp [hq]
 go_upto_region 4 with (refine wpList_store_mid rfl 30 (.tmp 2) (.tmp 14) rfl W4.heap.size 0 (encC d).toArray rfl rfl hth Tryz.confSize (all_oneCell_toArray (encC_one' (owns_mono_conf ho HX2.out.size))) ?_)
 generalize W4.alloc (.cells #[.slice none 0 0, .slice none 0 0, .slice none 0 0, .slice none 0 0, .int .i64 0, .int .i64 0, .int .i64 0, .int .i64 0, .int .i64 0, .int .i64 0, .int .i64 0, .int .i64 0, .int .i64 0, .int .i64 0, .int .i64 0, .int .i64 0, .int .i64 0, .int .i64 0, .int .i64 0, .int .i64 0] 30) = Wz at hbz hxz hth ⊢
 obtain ⟨b2, hbe⟩ : ∃ b, W4.heap.size = b := ⟨_, rfl⟩
 rw [hbe] at hbz hth ⊢
 have hbb2 : w.heap.size ≤ b2 := by have := ((HX2.out.trans E4)).size; omega
 have hrs := World.rangeAt_setCells_same Wz b2 0 (encC d) hth
 obtain ⟨cs, hcs1, hcs2⟩ := setCells_block b2 30 (0, 0) (encC d) 0 Wz _ hbz
 have hk5 := keeps_setCells b2 (encC d) 0 Wz
 show Code.wp _ _ _ _ (Wz.setCells b2 0 (encC d))
 generalize Wz.setCells b2 0 (encC d) = W5 at hrs hk5 hcs1 ⊢
 have HB3 := hide (show BoxC W5 b2 d from BoxC.of_range hcs1 (by rw [hcs2]; rfl) hrs)
 have HX3 := hide (Keeps.ext (((HX2.out.trans E4)).trans hxz) hk5 (fun g hg => by omega))
 have HO3 := hide ((((owns_mono_conf ho HX2.out.size)).ext hxz).keepT hk5 (OfT.one hbz) (by decide) (by decide) (by decide) (by decide) (by decide) (by decide) (by decide))
 have hGb2 : W4.heap.size ≤ b2 := by omega
 have hEb2 : Ext W4 W5 := ((Keeps.of_ext hxz).trans hk5 : Keeps (fun g => g = b2) W4 W5).below (Nat.le_refl _) (fun g hg => by omega)
 clear hrs hk5 hcs1 hcs2 hbz hxz hth
 have hc1 : W5.cell? ⟨b2, 1, none⟩ = some d.ev := HB3.out.cell 1 _ rfl
 have hz1 : W5.frozen? ⟨b2, 1, none⟩ = false := HB3.out.frozen 1
 have hbw := HB3.out.lt
 go_upto_region 5 with (fail)
 have hsz : (W5.setCell ⟨b2, 1, none⟩ (.slice (some ⟨W5.heap.size, 0, none⟩) 2 2)).heap.size = W5.heap.size := by simp [World.setCell]
 have hlit := World.ownsRow_lit (base := w.heap.size) (e := 40) (size := 3) (W5.setCell ⟨b2, 1, none⟩ (.slice (some ⟨W5.heap.size, 0, none⟩) 2 2)) #[.int .i64 2, .int .i64 1, .int .i64 1, .int .i64 5, .int .i64 1, .int .i64 1] 2 (by rw [hsz]; exact HX3.out.size) (by unfold maxLen; omega) rfl
 rw [hsz] at hlit
 have hks := Keeps.of_set (X := fun g => g = b2) W5 b2 1 (.slice (some ⟨W5.heap.size, 0, none⟩) 2 2) rfl
 have hal : Ext (W5.setCell ⟨b2, 1, none⟩ (.slice (some ⟨W5.heap.size, 0, none⟩) 2 2)) ((W5.setCell ⟨b2, 1, none⟩ (.slice (some ⟨W5.heap.size, 0, none⟩) 2 2)).alloc (.cells #[.int .i64 2, .int .i64 1, .int .i64 1, .int .i64 5, .int .i64 1, .int .i64 1] 40)) := (Below.refl _ _).alloc (Nat.le_refl _) _
 have hbs := (HB3.out.set (c' := { d with ev := .slice (some ⟨W5.heap.size, 0, none⟩) 2 2, E := [⟨2, 1, 1⟩, ⟨5, 1, 1⟩] }) 1 (.slice (some ⟨W5.heap.size, 0, none⟩) 2 2) rfl).ext hal
 have hos := ((HO3.out.keepT hks (OfT.one HB3.out) (by decide) (by decide) (by decide) (by decide) (by decide) (by decide) (by decide))).ext hal
 generalize (W5.setCell ⟨b2, 1, none⟩ (.slice (some ⟨W5.heap.size, 0, none⟩) 2 2)).alloc (.cells #[.int .i64 2, .int .i64 1, .int .i64 1, .int .i64 5, .int .i64 1, .int .i64 1] 40) = W6 at hlit hal hbs hos ⊢
 obtain ⟨c2, hcn⟩ : ∃ c' : ConfD, ({ d with ev := .slice (some ⟨W5.heap.size, 0, none⟩) 2 2, E := [⟨2, 1, 1⟩, ⟨5, 1, 1⟩] } : ConfD) = c' := ⟨_, rfl⟩
 have HX4 := hide ((Keeps.ext HX3.out hks (fun g hg => by omega)).trans hal)
 have HO4 := hide (show ConfOwn w.heap.size W6 c2 from by
  rw [← hcn]
  exact ⟨owns_mono hos.s (Nat.le_refl _), hos.k, hlit, hos.r, hos.rr, hos.t⟩)
 rw [hcn] at hbs
 have HB4 := hide hbs
 have HCc2 := hide hcn
 have hFb2 : Keeps (fun g => g = b2) W5 W6 := hks.trans (Keeps.of_ext hal)
 clear hbs hos hlit hal hks hsz hc1 hz1 hcn hbw
 have hE36 : Ext W3 W6 := E4.trans (((Keeps.of_ext hEb2).trans hFb2).below (Nat.le_refl _) (fun g hg => by omega))
 have HA := hide (HB2.out.ext hE36)
 have HAO := hide (HO2.out.ext hE36)
 have hc1S : c1.S = c.S := by rw [← HCc1.out]
 have hc2S : c2.S = d.S := by rw [← HCc2.out]
 have g1 : chkC c1 = 0 ∧ ConfFit c1 ∧ c1.E.length ≤ 19 := by
  obtain ⟨q1, q2, q3⟩ := good_conf HCC.out
  rw [← HCc1.out]
  refine ⟨chkC_E q2 _ _ ?_ (by decide), fit_E q1 _ _ (fun e he => by simp at he; rcases he with rfl | rfl <;> (show I64 _ ∧ I64 _ ∧ I64 _; decide)) (by decide), by show 2 ≤ 19; decide⟩
  have ht := thereB_core c.S 1
  rw [show c.S.map SvcD.core = (genC []).S from by have : c.core.S = (genC []).S := by rw [HCC.out]
                                                   exact this] at ht
  have ht' : thereB c.S 1 = true := by rw [← ht]; exact (there_svcsN [] _ 1).2 ⟨by omega, by have := svcsM_bd []; omega⟩
  simp [allAt, endB, inB, ht']
 have g2 : chkC c2 = 0 ∧ ConfFit c2 ∧ c2.E.length ≤ 19 := by
  obtain ⟨q1, q2, q3⟩ := good_conf hd
  rw [← HCc2.out]
  refine ⟨chkC_E q2 _ _ ?_ (by decide), fit_E q1 _ _ (fun e he => by simp at he; rcases he with rfl | rfl <;> (show I64 _ ∧ I64 _ ∧ I64 _; decide)) (by decide), by show 2 ≤ 19; decide⟩
  have ht := thereB_core d.S 1
  rw [show d.S.map SvcD.core = (genC []).S from by have : d.core.S = (genC []).S := by rw [hd]
                                                   exact this] at ht
  have ht' : thereB d.S 1 = true := by rw [← ht]; exact (there_svcsN [] _ 1).2 ⟨by omega, by have := svcsM_bd []; omega⟩
  simp [allAt, endB, inB, ht']
 have he1 : c1.E = [⟨3, 1, 1⟩, ⟨2, 1, 1⟩] := by rw [← HCc1.out]
 have he2 : c2.E = [⟨2, 1, 1⟩, ⟨5, 1, 1⟩] := by rw [← HCc2.out]
 have G1 := hide g1
 have G2 := hide g2
 have HE1 := hide he1
 have HE2 := hide he2
 clear hd ho g1 g2 he1 he2 hc1S hc2S hE36 E4 hEb2 hFb2 hFb1 hGb2 HB2 HO2 HX2 HB3 HO3 HX3 HCc1 HCc2 HCC
 refine wp_region_lit ?_
 refine wpList_load_mid rfl 30 (.tmp 1) rfl b1 0 rfl (encC c1) cd (HA.out).range hcd1 hcd2 Tryz.confSize ?_
 simp only [Act.put]
 go_wp2_with fail
 refine (mnew_any 1 w.heap.size c1 W6 (HM.out.ext HX4.out) (HX4.out).size (HAO.out) (G1.out.2.1) (G1.out.2.2)).mono ?_
 rintro e W7 ⟨E6, ⟨hne, -⟩ | ⟨-, ba, rfl, hsa⟩⟩
 ·exact absurd (G1.out.1) hne
 have E67 := hide E6
 have SA := hide hsa
 clear E6 hsa
 have HB7 := hide (HB4.out.ext E67.out)
 have HO7 := hide (HO4.out.ext E67.out)
 have HX7 := hide (HX4.out.trans E67.out)
 clear HB4 HO4 HA HAO
 go_upto_region 6 with (fail)
 refine wp_region_lit ?_
 refine wpList_load_mid rfl 30 (.tmp 2) rfl b2 0 rfl (encC c2) cd (HB7.out).range hcd1 hcd2 Tryz.confSize ?_
 simp only [Act.put]
 go_wp2_with fail
 refine (mnew_any 2 w.heap.size c2 W7 (HM.out.ext HX7.out) (HX7.out).size (HO7.out) (G2.out.2.1) (G2.out.2.2)).mono ?_
 rintro e W8 ⟨E6, ⟨hne, -⟩ | ⟨-, bb, rfl, hsa⟩⟩
 ·exact absurd (G2.out.1) hne
 have E78 := hide E6
 have SB := hide hsa
 clear E6 hsa
 have HX8 := hide (HX7.out.trans E78.out)
 have SA8 := hide (SA.out.ext E78.out)
 clear SA HB7 HO7 HX7 HX4 E67 E78 G1 G2
 obtain ⟨da, bta, bsa, bra, nba, Ra, ga, sa, hca⟩ := SA8.out
 obtain ⟨db, btb, bsb, brb, nbb, Rb, gb, sb, hcb⟩ := SB.out
 have hea : da.E = [⟨3, 1, 1⟩, ⟨2, 1, 1⟩] := (core_E hca).trans HE1.out
 have heb : db.E = [⟨2, 1, 1⟩, ⟨5, 1, 1⟩] := (core_E hcb).trans HE2.out
 have IA := hide sa
 have IB := hide sb
 have HEA := hide hea
 have HEB := hide heb
 clear sa sb hca hcb hea heb SA8 SB HE1 HE2
 go_wp2_with fail
 refine (diff_any W8 IA.out IB.out).mono ?_
 rintro e W9 ⟨v1, v2, rfl, hr1, hr2, E9⟩
 rw [HEA.out, HEB.out] at hr1 hr2
 have h5 : cameE [⟨3, 1, 1⟩, ⟨2, 1, 1⟩] [⟨2, 1, 1⟩, ⟨5, 1, 1⟩] = [5] := by simp [cameE, lacksE, eqE, srtE]
 have h3 : cameE [⟨2, 1, 1⟩, ⟨5, 1, 1⟩] [⟨3, 1, 1⟩, ⟨2, 1, 1⟩] = [3] := by simp [cameE, lacksE, eqE, srtE]
 rw [h5] at hr1
 rw [h3] at hr2
 obtain ⟨va, vc, rfl⟩ := owns_shape hr1
 obtain ⟨vb, vd, rfl⟩ := owns_shape hr2
 have IA9 := hide (IA.out.ext E9)
 have IB9 := hide (IB.out.ext E9)
 have HR1 := hide hr1
 have HR2 := hide hr2
 have HX9 := hide (HX8.out.trans E9)
 clear hr1 hr2 E9 IA IB HX8 h5 h3
 go_wp2_with fail
 refine (mends_any 1 W9 IA9.out.box (ends_sl IA9.out.own) IA9.out.nodup IA9.out.few).mono ?_
 rintro e W10 ⟨v10, rfl, h10, E10⟩
 have hend : endsAt da.E 1 = [⟨2, 1, 1⟩, ⟨3, 1, 1⟩] := by
  rw [HEA.out]
  exact (srtE_unique (l := [⟨3, 1, 1⟩, ⟨2, 1, 1⟩]) (List.Perm.swap _ _ _) (by decide) (by decide)).symm
 rw [hend] at h10
 have H10 := hide h10
 have HX10 := hide E10
 clear h10 E10 hend
 go_wp2_with fail
 refine (rids_any [⟨2, 1, 1⟩, ⟨3, 1, 1⟩] v10 W10 (Sl.of_own' encE_len H10.out) (by decide)).mono ?_
 rintro e W11 ⟨v11, rfl, h11, E11⟩
 have H11 := hide h11
 have HX11 := hide (HX10.out.trans E11)
 clear h11 E11
 go_wp2_with fail
 have hal : Ext W11 (W11.alloc (.cells #[.int .i64 2, .int .i64 3] 3)) := (Below.refl _ _).alloc (Nat.le_refl _) _
 have hlit : Ints (W11.alloc (.cells #[.int .i64 2, .int .i64 3] 3)) (.slice (some ⟨W11.heap.size, 0, none⟩) 2 2) [2, 3] := Sl.of_own' (enc := encI) (fun _ => rfl) (World.ownsRow_lit (base := 0) (e := 3) (size := 1) W11 #[.int .i64 2, .int .i64 3] 2 (Nat.zero_le _) (by unfold maxLen; omega) rfl)
 refine (sameInts_any [2, 3] [2, 3] v11 _ _ ((Sl.of_own' (enc := encI) (fun _ => rfl) (show W11.ownsRow _ _ _ _ ([2, 3] : List Int).length (([2, 3] : List Int).flatMap encI) from H11.out)).ext hal) hlit).mono ?_
 rintro e W12 ⟨rfl, E⟩
 rw [show sameInts [2, 3] [2, 3] = true by decide]
 have HXW12 := hide ((HX11.out).trans (hal.trans E))
 clear E hal hlit
 clear H11 HX10 HX11 H10
 go_wp2_with fail
 have hal : Ext W12 (W12.alloc (.cells #[.int .i64 5] 3)) := (Below.refl _ _).alloc (Nat.le_refl _) _
 have hlit : Ints (W12.alloc (.cells #[.int .i64 5] 3)) (.slice (some ⟨W12.heap.size, 0, none⟩) 1 1) [5] := Sl.of_own' (enc := encI) (fun _ => rfl) (World.ownsRow_lit (base := 0) (e := 3) (size := 1) W12 #[.int .i64 5] 1 (Nat.zero_le _) (by unfold maxLen; omega) rfl)
 refine (sameInts_any [5] [5] (.slice va 1 vc) _ _ ((Sl.of_own' (enc := encI) (fun _ => rfl) (show W12.ownsRow _ _ _ _ ([5] : List Int).length (([5] : List Int).flatMap encI) from (owns_ext HR1.out HXW12.out))).ext hal) hlit).mono ?_
 rintro e W13 ⟨rfl, E⟩
 rw [show sameInts [5] [5] = true by decide]
 have HXW13 := hide ((HXW12.out).trans (hal.trans E))
 clear E hal hlit
 clear HXW12 HR1
 go_wp2_with fail
 have hal : Ext W13 (W13.alloc (.cells #[.int .i64 3] 3)) := (Below.refl _ _).alloc (Nat.le_refl _) _
 have hlit : Ints (W13.alloc (.cells #[.int .i64 3] 3)) (.slice (some ⟨W13.heap.size, 0, none⟩) 1 1) [3] := Sl.of_own' (enc := encI) (fun _ => rfl) (World.ownsRow_lit (base := 0) (e := 3) (size := 1) W13 #[.int .i64 3] 1 (Nat.zero_le _) (by unfold maxLen; omega) rfl)
 refine (sameInts_any [3] [3] (.slice vb 1 vd) _ _ ((Sl.of_own' (enc := encI) (fun _ => rfl) (show W13.ownsRow _ _ _ _ ([3] : List Int).length (([3] : List Int).flatMap encI) from (owns_ext HR2.out HXW13.out))).ext hal) hlit).mono ?_
 rintro e W14 ⟨rfl, E⟩
 rw [show sameInts [3] [3] = true by decide]
 have HXW14 := hide ((HXW13.out).trans (hal.trans E))
 clear E hal hlit
 have hv : W14.cell? ⟨bb, 0, none⟩ = some (.int .i64 2) := (IB9.out.ext HXW14.out).box.cell 0 _ rfl
 clear HXW13 HR2 IA9 IB9
 go_wp2_with fail
 go_ret
 exact ⟨rfl, HX9.out.trans HXW14.out⟩
end Go.Proofs.YtofjcokclegkhaaGreatDoor
/- Law 16's made (printed by wip/gen_snh.py). -/
namespace Go.Proofs.YtofjcokclegkhaaGreatDoor
open Go.ChangeShapes Go.WideShapes Go.ChangeAt Go.RowKit Go.Lib Go.Shelf Go.Maps
theorem frame19 (x : Nat → Value) : frameOf 19 x = #[x 0, x 1, x 2, x 3, x 4, x 5, x 6, x 7, x 8, x 9, x 10, x 11, x 12, x 13, x 14, x 15, x 16, x 17, x 18] := rfl
theorem results_slot_cell {P : Program} {fn : Func} {p q : Tmp} {ty : TypeId} (h : fn.results = #[.tmp q, .cell p ty]) (tmps : Array Value) (w : World) (b o : Nat) (cs : List Value) (d : TypeDesc)
  (hp : tmps.getD p undef = .pointer (some ⟨b, o, none⟩)) (hc : w.rangeAt b o cs) (hu : P.underlying ty = some d) (hd : d.isRow = true) (hi : (P.info? ty).map (·.size) = some cs.length) :
  (results fn tmps).run P w = .ok (.tuple #[tmps.getD q undef, .agg cs.toArray]) w := by
 have hp' : tmps[p]?.getD undef = .pointer (some ⟨b, o, none⟩) := by simpa using hp
 simp [results, h, hp', asAddr, run_loadVar_mid w b o ty cs d hc hu hd hi]
/-- the phases of a copy into the result's box -/
def PhBx (W : World) (b : Nat) (c : ConfD) : List Value → World → Prop
 | [], w' => Ext W w'
 | _ :: _, w' => ∃ w8, Ext W w8 ∧ Ext (w8.setCells b 0 (encC c)) w'
theorem PhBx.keep {W : World} {b : Nat} {c : ConfD} : ∀ {vs : List Value} {w' w'' : World}, PhBx W b c vs w' → Ext w' w'' → PhBx W b c vs w''
 | [], _, _, h, e => Ext.trans h e
 | _ :: _, _, _, ⟨w8, h1, h2⟩, e => ⟨w8, h1, h2.trans e⟩
theorem PhBx.x {W : World} {b : Nat} {c : ConfD} {vs : List Value} {w' : World} (h : PhBx W b c vs w') (hl : vs.length ≤ 0) : Ext W w' := by
 rcases vs with _ | ⟨v, vs⟩
 ·exact h
 ·simp at hl
/-- a version stands while blocks below its base are written -/
theorem SnapIs.keepB {B : Nat} {w w' : World} {b : Nat} {ver : Int} {d : ConfD} {bt bs br : Nat} {nb : Value} {Rs : List RuleD} {g : Int → Option Value} {X : Nat → Prop} (h : SnapIs B w b ver d bt bs br nb Rs g) (k : Keeps X w w') (hX : ∀ q, X q → q < B) : SnapIs B w' b ver d bt bs br nb Rs g := by
 have hox : ∀ {e : TypeId} {size n : Nat} {v : Value} {xs : List Value}, w.ownsRow B e size v n xs → w'.ownsRow B e size v n xs := fun h => owns_keeps h k fun q hq hx => by
  have := (h.lt q hq).1
  have := hX q hx
  omega
 have hbk : ∀ q, B ≤ q → q < w.heap.size → w'.heap[q]? = w.heap[q]? := fun q h1 h2 => k.block q h2 fun hx => by
  have := hX q hx
  omega
 have hring : ∀ {r : Value} {n : Nat} {P : List (Int × Int)}, Rg.RingNew B w r n P → Rg.RingNew B w' r n P := fun h => by
  obtain ⟨h0, h00, Q, a, cap, h1, h2, h3, h4, h5⟩ := h
  refine ⟨h0, h00, Q, a, cap, h1, (hbk Q h4 (Array.getElem?_eq_some_iff.1 h2).1).trans h2, ?_, h4, h5⟩
  obtain ⟨q1, a', cap', q2, q3, q4⟩ := h3
  refine ⟨q1, a', cap', q2, q3, fun i x hi => ?_⟩
  obtain ⟨b, off, ha, hb, hc⟩ := q4 i x hi
  have hab : B ≤ b := by
   simp only [Value.slice.injEq] at q2
   exact h5 ⟨b, off, none⟩ (q2.1.trans ha)
  exact ⟨b, off, ha, Nat.lt_of_lt_of_le hb k.size, fun j u hu => (World.cell?_of_block (w := w) (a := ⟨b, off + i * 2 + j, none⟩) (hbk b hab hb)).trans (hc j u hu)⟩
 obtain ⟨n1, hs1⟩ := h.sm
 obtain ⟨n2, hs2⟩ := h.rm
 obtain ⟨t1, ⟨vr, vi, t2, t3, t4⟩, t5⟩ := h.tab
 refine ⟨h.hb, h.hbs, h.hbr, (hbk b h.hb h.box.lt).trans h.box, ⟨hox h.own.s, fun s hs => hox (h.own.k s hs), hox h.own.e, hox h.own.r, fun r hr => ?_, hox h.own.t⟩, ⟨t1, ⟨vr, vi, (hbk bt t1 (Array.getElem?_eq_some_iff.1 t2).1).trans t2, hox t3, hox t4⟩, fun r hr => ?_⟩, h.rs, ⟨n1, hs1.keepB (hbk bs h.hbs hs1.lt)⟩, ⟨n2, hs2.keepB (hbk br h.hbr hs2.lt)⟩, h.rg, fun id v hv => hring (h.ring id v hv), hring h.nob, h.right, h.few⟩
 ·have := h.own.rr r hr
  exact ⟨hox this.1, hox this.2.1, hox this.2.2.1, hox this.2.2.2⟩
 ·have := t5 r hr
  exact ⟨hox this.1, hox this.2.1, hox this.2.2.1, hox this.2.2.2⟩
theorem SnapAt.keepB {B : Nat} {w w' : World} {b : Nat} {ver : Int} {c : ConfD} {X : Nat → Prop} (h : SnapAt B w b ver c) (k : Keeps X w w') (hX : ∀ q, X q → q < B) : SnapAt B w' b ver c := by
 obtain ⟨d, bt, bs, br, nb, Rs, g, h, hc⟩ := h
 exact ⟨d, bt, bs, br, nb, Rs, g, h.keepB k hX, hc⟩
set_option maxRecDepth 100000 in
set_option maxHeartbeats 16000000 in
theorem made16_any (L : List Int) (v : Value) (w : World) (hs : Ints w v L) (hL : ∀ x ∈ L, I64 x) (hm : MaxV w) : Calls Tryz.prog 14 #[v] w fun e w' => ∃ b c B, e = .returned (.tuple #[.pointer (some ⟨b, 0, none⟩), ConfD.val c]) ∧ c.core = genC L ∧ ConfOwn w.heap.size w' c ∧ w.heap.size < B ∧ SnapAt B w' b 3 c ∧ Ext w w' := by
 obtain ⟨cd, hcd1, hcd2⟩ := Tryz.confDesc
 obtain ⟨_, a, cap, rfl⟩ := hs.shape
 have hx0 : Ext w (w.alloc (.cells #[.slice none 0 0, .slice none 0 0, .slice none 0 0, .slice none 0 0, .int .i64 0, .int .i64 0, .int .i64 0, .int .i64 0, .int .i64 0, .int .i64 0, .int .i64 0, .int .i64 0, .int .i64 0, .int .i64 0, .int .i64 0, .int .i64 0, .int .i64 0, .int .i64 0, .int .i64 0, .int .i64 0] 30)) := (Below.refl _ w).alloc (Nat.le_refl _) _
 have hz0 : Box2 (w.alloc (.cells #[.slice none 0 0, .slice none 0 0, .slice none 0 0, .slice none 0 0, .int .i64 0, .int .i64 0, .int .i64 0, .int .i64 0, .int .i64 0, .int .i64 0, .int .i64 0, .int .i64 0, .int .i64 0, .int .i64 0, .int .i64 0, .int .i64 0, .int .i64 0, .int .i64 0, .int .i64 0, .int .i64 0] 30)) w.heap.size := ⟨_, heap_alloc_new w _, rfl⟩
 have HM := hide hm
 have HS := hide hs
 clear hm hs
 go_enter Tryz.func14, Tryz.ntmps14
 go_wp2_with fail
 generalize w.alloc (.cells #[.slice none 0 0, .slice none 0 0, .slice none 0 0, .slice none 0 0, .int .i64 0, .int .i64 0, .int .i64 0, .int .i64 0, .int .i64 0, .int .i64 0, .int .i64 0, .int .i64 0, .int .i64 0, .int .i64 0, .int .i64 0, .int .i64 0, .int .i64 0, .int .i64 0, .int .i64 0, .int .i64 0] 30) = W0 at hx0 hz0 ⊢
 have hsz0 : w.heap.size < W0.heap.size := by obtain ⟨cs, h1, -⟩ := hz0; exact (Array.getElem?_eq_some_iff.1 h1).1
 refine (conf_any L _ W0 (HS.out.ext hx0) hL).mono ?_
 rintro e W1 ⟨c, rfl, hc, ho, E1⟩
 have HX1 := hide (hx0.trans E1)
 have HZ1 := hide (hz0.ext E1)
 have HO1 := hide (owns_mono_conf ho hx0.size)
 have hsz1 := E1.size
 have HCO := hide hc
 clear hx0 hz0 E1 ho hc
 have hbz := heap_alloc_new W1 (.cells #[.slice none 0 0, .slice none 0 0, .slice none 0 0, .slice none 0 0, .int .i64 0, .int .i64 0, .int .i64 0, .int .i64 0, .int .i64 0, .int .i64 0, .int .i64 0, .int .i64 0, .int .i64 0, .int .i64 0, .int .i64 0, .int .i64 0, .int .i64 0, .int .i64 0, .int .i64 0, .int .i64 0] 30)
 have hxz : Ext W1 (W1.alloc (.cells #[.slice none 0 0, .slice none 0 0, .slice none 0 0, .slice none 0 0, .int .i64 0, .int .i64 0, .int .i64 0, .int .i64 0, .int .i64 0, .int .i64 0, .int .i64 0, .int .i64 0, .int .i64 0, .int .i64 0, .int .i64 0, .int .i64 0, .int .i64 0, .int .i64 0, .int .i64 0, .int .i64 0] 30)) := (Below.refl _ _).alloc (Nat.le_refl _) _
 have hth : (W1.alloc (.cells #[.slice none 0 0, .slice none 0 0, .slice none 0 0, .slice none 0 0, .int .i64 0, .int .i64 0, .int .i64 0, .int .i64 0, .int .i64 0, .int .i64 0, .int .i64 0, .int .i64 0, .int .i64 0, .int .i64 0, .int .i64 0, .int .i64 0, .int .i64 0, .int .i64 0, .int .i64 0, .int .i64 0] 30)).there W1.heap.size 0 20 := fun q hq => by
  rw [Nat.zero_add]
  refine ⟨?_, by simp only [World.frozen?]; rw [hbz]; simp⟩
  simp only [World.cell?, hbz]
  simp [hq]
 go_upto_region 2 with (refine wpList_store_mid rfl 30 (.tmp 4) (.tmp 8) rfl W1.heap.size 0 (encC c).toArray rfl rfl hth Tryz.confSize (all_oneCell_toArray (encC_one' HO1.out)) ?_)
 generalize W1.alloc (.cells #[.slice none 0 0, .slice none 0 0, .slice none 0 0, .slice none 0 0, .int .i64 0, .int .i64 0, .int .i64 0, .int .i64 0, .int .i64 0, .int .i64 0, .int .i64 0, .int .i64 0, .int .i64 0, .int .i64 0, .int .i64 0, .int .i64 0, .int .i64 0, .int .i64 0, .int .i64 0, .int .i64 0] 30) = Wz at hbz hxz hth ⊢
 obtain ⟨b4, hbe⟩ : ∃ b, W1.heap.size = b := ⟨_, rfl⟩
 rw [hbe] at hbz hth ⊢
 have hbb4 : w.heap.size ≤ b4 := by have := (HX1.out).size; omega
 have hrs := World.rangeAt_setCells_same Wz b4 0 (encC c) hth
 obtain ⟨cs, hcs1, hcs2⟩ := setCells_block b4 30 (0, 0) (encC c) 0 Wz _ hbz
 have hk5 := keeps_setCells b4 (encC c) 0 Wz
 show Code.wp _ _ _ _ (Wz.setCells b4 0 (encC c))
 generalize Wz.setCells b4 0 (encC c) = W2 at hrs hk5 hcs1 ⊢
 have HB2 := hide (show BoxC W2 b4 c from BoxC.of_range hcs1 (by rw [hcs2]; rfl) hrs)
 have HX2 := hide (Keeps.ext ((HX1.out).trans hxz) hk5 (fun g hg => by omega))
 have HO2 := hide (((HO1.out).ext hxz).keepT hk5 (OfT.one hbz) (by decide) (by decide) (by decide) (by decide) (by decide) (by decide) (by decide))
 have hGb4 : W1.heap.size ≤ b4 := by omega
 have hEb4 : Ext W1 W2 := ((Keeps.of_ext hxz).trans hk5 : Keeps (fun g => g = b4) W1 W2).below (Nat.le_refl _) (fun g hg => by omega)
 clear hrs hk5 hcs1 hcs2 hbz hxz hth
 have HZ2 := hide (HZ1.out.ext hEb4)
 have hsz2 := hEb4.size
 clear HO1 HZ1 HX1 hEb4
 have G := hide (good_conf HCO.out)
 refine wp_region_lit ?_
 refine wpList_load_mid rfl 30 (.tmp 4) rfl b4 0 rfl (encC c) cd (HB2.out).range hcd1 hcd2 Tryz.confSize ?_
 simp only [Act.put]
 go_wp2_with fail
 refine (mnew_any 3 w.heap.size c W2 (HM.out.ext HX2.out) (HX2.out).size (HO2.out) (G.out.1) (Nat.le_trans G.out.2.2 (by decide))).mono ?_
 rintro e W3 ⟨E6, ⟨hne, -⟩ | ⟨-, ba, rfl, hsa⟩⟩
 ·exact absurd (G.out.2.1) hne
 have E3 := hide E6
 have SA := hide hsa
 clear E6 hsa
 have HB4 := hide (HB2.out.ext E3.out)
 have HO4 := hide (HO2.out.ext E3.out)
 have HX4 := hide (HX2.out.trans E3.out)
 have HZ := hide (HZ2.out.ext E3.out)
 have HSA := hide SA.out
 have HBA := hide (show w.heap.size < W2.heap.size by omega)
 clear HB2 HO2 HX2 HZ2 E3 SA
 generalize W2.heap.size = BB at HSA HBA
 go_upto_region 5 with (fail)
 generalize W3 = W at *
 refine wp_region_rw 19 [3] [2, 17, 18] (PhBx W w.heap.size c) (fun (t : Nat) (wI : World) (v : Value) => match t with | 2 => v = (.pointer (some ⟨ba, 0, none⟩)) | 17 => v = (.pointer (some ⟨ba, 0, none⟩)) | 18 => v = (.agg #[c.sv, c.ev, c.rv, c.tv, .int .i64 c.w0, .int .i64 c.w1, .int .i64 c.w2, .int .i64 c.w3, .int .i64 c.w4, .int .i64 c.w5, .int .i64 c.w6, .int .i64 c.panic, .int .i64 c.low, .int .i64 c.high, .int .i64 c.wait, .int .i64 c.hop, .int .i64 c.life, .int .i64 c.purse, .int .i64 c.horizon, .int .i64 c.sample]) | _ => True) (fun _ _ => True) (by kernel_rfl) rfl (by kernel_rfl) (by kernel_rfl) (by kernel_rfl) (by kernel_rfl) ?_ ?_ ?_ ?_ ?_ ?_ ?_
 ·intro w' w'' h
  trivial
 ·intro t w' w'' v hR hv
  exact hv
 ·intro vs w' w'' h e
  exact h.keep e
 ·exact (Below.refl _ _).drew
 ·intro i o ho hmi vs X w' hpk hph hX hI hF K hK
  have hin : i < 4 := (Array.getElem?_eq_some_iff.1 ho).1
  have hi : i = 0 ∨ i = 1 ∨ i = 2 ∨ i = 3 := by omega
  rcases hi with rfl | rfl | rfl | rfl
  ·obtain rfl := Option.some.inj ho
   have e5 : X 5 = (.pointer (some ⟨ba, 0, none⟩)) := hF 5 (by omega) (by kernel_rfl)
   unfold wpOp
   simp only [ho]
   rw [if_pos (by rfl)]
   left
   rw [frame19]
   go_simp
   refine metK (hK.out ((.pointer (some ⟨ba, 0, none⟩))) _ (Below.refl _ _) (fun d hd => by cases hd; exact rfl)) ?_
   simp [frame19, Act.put, *]
  ·obtain rfl := Option.some.inj ho
   have e4 : X 4 = (.pointer (some ⟨b4, 0, none⟩)) := hF 4 (by omega) (by kernel_rfl)
   have hx := hph.x ((hpk 0 (by decide)).2 (by kernel_rfl))
   unfold wpOp
   simp only [ho]
   rw [if_pos (by rfl)]
   left
   rw [frame19]
   refine wp_load_mid 30 (.tmp 4) rfl b4 0 e4 (encC c) cd ((HB4.out.ext hx).range) hcd1 hcd2 Tryz.confSize (metK (hK.out (.agg #[c.sv, c.ev, c.rv, c.tv, .int .i64 c.w0, .int .i64 c.w1, .int .i64 c.w2, .int .i64 c.w3, .int .i64 c.w4, .int .i64 c.w5, .int .i64 c.w6, .int .i64 c.panic, .int .i64 c.low, .int .i64 c.high, .int .i64 c.wait, .int .i64 c.hop, .int .i64 c.life, .int .i64 c.purse, .int .i64 c.horizon, .int .i64 c.sample]) _ (Below.refl _ _) (fun d hd => by cases hd; exact rfl)) ?_)
   rfl
  ·obtain rfl := Option.some.inj ho
   have e17 : X 17 = (.pointer (some ⟨ba, 0, none⟩)) := hI 17 (by kernel_rfl) (by kernel_rfl)
   unfold wpOp
   simp only [ho]
   rw [if_pos (by rfl)]
   left
   rw [frame19]
   go_simp
   refine metK (hK.out (.pointer (some ⟨ba, 0, none⟩)) _ (Below.refl _ _) (fun d hd => by cases hd; exact rfl)) ?_
   simp [frame19, Act.put, *]
  ·exact absurd hmi (by decide)
 ·intro i o ho hmi vs X w' hqi hql hph hX hI hF K hK
  rcases vs with _ | ⟨v0, _⟩
  ·obtain rfl : 3 = i := hqi
   obtain rfl := Option.some.inj ho
   have e3 : X 3 = (.pointer (some ⟨w.heap.size, 0, none⟩)) := hF 3 (by omega) (by kernel_rfl)
   have e18 : X 18 = (.agg #[c.sv, c.ev, c.rv, c.tv, .int .i64 c.w0, .int .i64 c.w1, .int .i64 c.w2, .int .i64 c.w3, .int .i64 c.w4, .int .i64 c.w5, .int .i64 c.w6, .int .i64 c.panic, .int .i64 c.low, .int .i64 c.high, .int .i64 c.wait, .int .i64 c.hop, .int .i64 c.life, .int .i64 c.purse, .int .i64 c.horizon, .int .i64 c.sample]) := hI 18 (by kernel_rfl) (by kernel_rfl)
   have hx : Ext W w' := hph
   unfold wpOp
   simp only [ho]
   rw [if_pos (by rfl)]
   left
   rw [frame19]
   have hth : w'.there w.heap.size 0 20 := fun q hq => by
    obtain ⟨cs, h1, h2⟩ := HZ.out.ext hx
    rw [Nat.zero_add]
    refine ⟨?_, by simp only [World.frozen?]; rw [h1]; simp⟩
    simp only [World.cell?, h1]
    simp [hq, h2]
   refine wp_store_mid 30 (.tmp 3) (.tmp 18) rfl w.heap.size 0 (encC c).toArray e3 e18 hth Tryz.confSize (all_oneCell_toArray (encC_one' HO4.out)) (metK (hK.out undef _ ⟨w', hx, Below.refl _ _⟩ trivial) ?_)
   simp [frame19, Act.put, *]
  ·simp at hql <;> omega
 ·intro vs X w' hlen hph hX hI
  have e2 : X 2 = (.pointer (some ⟨ba, 0, none⟩)) := hI 2 (by omega) (by kernel_rfl) (by kernel_rfl)
  have e17 : X 17 = (.pointer (some ⟨ba, 0, none⟩)) := hI 17 (by omega) (by kernel_rfl) (by kernel_rfl)
  have e18 : X 18 = (.agg #[c.sv, c.ev, c.rv, c.tv, .int .i64 c.w0, .int .i64 c.w1, .int .i64 c.w2, .int .i64 c.w3, .int .i64 c.w4, .int .i64 c.w5, .int .i64 c.w6, .int .i64 c.panic, .int .i64 c.low, .int .i64 c.high, .int .i64 c.wait, .int .i64 c.hop, .int .i64 c.life, .int .i64 c.purse, .int .i64 c.horizon, .int .i64 c.sample]) := hI 18 (by omega) (by kernel_rfl) (by kernel_rfl)
  rcases vs with _ | ⟨v0, _ | ⟨vz, vs⟩⟩
  ·simp at hlen
  rotate_left
  ·simp at hlen
  clear hX hI hlen
  simp only [overF, List.foldl_cons, List.foldl_nil, List.setIfInBounds_toArray, List.set_cons_succ, List.set_cons_zero, e2, e17, e18]
  obtain ⟨w8, E8, E9⟩ := hph
  obtain ⟨cs, hz1, hz2⟩ := HZ.out.ext E8
  have hth : w8.there w.heap.size 0 20 := fun q hq => by
   rw [Nat.zero_add]
   refine ⟨?_, by simp only [World.frozen?]; rw [hz1]; simp⟩
   simp only [World.cell?, hz1]
   simp [hq, hz2]
  have hrs := World.rangeAt_setCells_same w8 w.heap.size 0 (encC c) hth
  have hk5 := keeps_setCells w.heap.size (encC c) 0 w8
  generalize w8.setCells w.heap.size 0 (encC c) = W9 at hrs hk5 E9
  have hor := (HO4.out.ext E8).keepT hk5 (OfT.one hz1) (by decide) (by decide) (by decide) (by decide) (by decide) (by decide) (by decide)
  have hsr := HSA.out.ext E8
  have HRES := hide (show World.rangeAt w' w.heap.size 0 (encC c) from fun j v hv => by
   have h := hrs j v hv
   exact (E9.cell (p := ⟨w.heap.size, 0 + j, none⟩) (World.block_lt_of_cell? W9 _ h)).trans h)
  have HOR := hide (hor.ext E9)
  have HEX := hide ((Keeps.ext (HX4.out.trans E8) hk5 (fun g hg => by omega)).trans E9)
  have HSR := hide ((hsr.keepB hk5 (fun q hq => by have := HBA.out; omega)).ext E9)
  clear hrs hk5 hor hsr E8 E9 hth hz1 hz2
  go_wp2_with fail
  (try simp only [Exit.inBlock, Exit.then])
  refine bodyPost_ret (results_slot_cell (q := 2) rfl _ _ w.heap.size 0 (encC c) cd rfl HRES.out hcd1 hcd2 Tryz.confSize) rfl ?_
  exact ⟨ba, c, BB, rfl, HCO.out, HOR.out, HBA.out, HSR.out, HEX.out⟩
end Go.Proofs.YtofjcokclegkhaaGreatDoor
/- Laws on versions: what they share (printed by wip/gen_swe.py). -/
namespace Go.Proofs.YtofjcokclegkhaaGreatDoor
open Go.ChangeShapes Go.WideShapes Go.ChangeAt Go.RowKit Go.Lib Go.Shelf Go.Maps
theorem endsAt_mem {E : List EndD} {id : Int} {e : EndD} : e ∈ endsAt E id ↔ e ∈ E ∧ e.svc = id := by
 unfold endsAt
 rw [srtE_mem, List.mem_filter]
 simp
theorem endsAt_len (E : List EndD) (id : Int) : (endsAt E id).length = (E.filter fun e => e.svc == id).length := by
 unfold endsAt
 exact (srtE_perm _).length_eq
theorem right_svc {c : ConfD} (h : chkC c = 0) {e : EndD} (he : e ∈ c.E) : thereB c.S e.svc = true ∧ 1 ≤ e.svc ∧ e.svc ≤ 10 := by
 obtain ⟨-, -, -, h2, h3, -⟩ := chkC_ends h
 have ht := (ends_in h3 he).2.2.1
 refine ⟨ht, ?_⟩
 unfold thereB at ht
 obtain ⟨s, hs, he⟩ := List.any_eq_true.1 ht
 have := svcs_in h2 hs
 have he' : s.id = e.svc := by simpa using he
 omega
/-- the ring that a version tells -/
theorem ring_of {B : Nat} {w : World} {b : Nat} {ver : Int} {d : ConfD} {bt bs br : Nat} {nb : Value} {Rs : List RuleD} {g : Int → Option Value} (h : SnapIs B w b ver d bt bs br nb Rs g) (id : Int) : Rg.RingAt w ((g id).getD nb) (Rg.ends (idsAt d.E id)).length (Rg.pointsOf 16 (idsAt d.E id)) := by
 cases hg : g id with
 | some v => exact (h.ring id v hg).at
 | none =>
  have ht : thereB d.S id = false := by rw [← h.rg id, hg]; rfl
  have h0 : endsAt d.E id = [] := by
   apply List.eq_nil_iff_forall_not_mem.2
   intro e he
   obtain ⟨h1, h2⟩ := endsAt_mem.1 he
   have := (right_svc h.right h1).1
   rw [h2, ht] at this
   cases this
  have h1 : idsAt d.E id = [] := by unfold idsAt; rw [h0]; rfl
  rw [h1]
  exact h.nob.at
theorem ring_ptr {w : World} {r : Value} {n : Nat} {P : List (Int × Int)} (h : Rg.RingAt w r n P) : ∃ q, r = .pointer (some ⟨q, 0, none⟩) := by
 obtain ⟨-, -, q, -, -, h1, -⟩ := h
 exact ⟨q, h1⟩
end Go.Proofs.YtofjcokclegkhaaGreatDoor
