/- Lemmas. -/
import Derived.Test.YtoaiakhnnfbkdaaGreatDoorSnE
import Derived.Test.YtoaiakhnnfbkdaaGreatDoorZcy
import Derived.Test.YtoaiakhnnfbkdaaGreatDoorZhr
set_option maxRecDepth 100000
set_option maxHeartbeats 32000000
namespace Go.Proofs.YtoaiakhnnfbkdaaGreatDoor
open Go.ChangeShapes Go.WideShapes Go.ChangeAt Go.RowKit Go.Lib Go.Shelf Go.Maps
theorem fit_core {c : ConfD} (h : ConfFit c.core) : ConfFit c := by
 obtain ⟨h1,h2,h3,h4,h5,h6,h7⟩ := h;refine ⟨fun s hs => ?_,h2,fun r hr => ?_, ?_,h5, ?_,h7⟩
 ·have := h1 s.core (List.mem_map.2 ⟨s,hs,rfl⟩);exact this
 ·have := h3 r.core (List.mem_map.2 ⟨r,hr,rfl⟩);exact this
 ·have : (c.S.map SvcD.core).length <= 1000 := h4;simpa using this
 ·have : (c.R.map RuleD.core).length <= 1000 := h6;simpa using this
theorem good_conf {c : ConfD} {L : List Int} (h : c.core = genC L) : ConfFit c /\ chkC c = 0 /\ c.E.length <= 10 := by
 refine ⟨fit_core (h ▸ genC_fit L),by rw [<- chkC_core,h,genC_right], ?_⟩
 have e : c.E = (genC L).E := by
  have : c.core.E = (genC L).E := by rw [h]
  exact this
 rw [e];have hm := svcsM_bd L;show (endsA L (svcsM L) ++ endsZ L (svcsM L) (endsM L)).length <= 10;rw [List.length_append,endsA_len,endsZ_len];unfold endsM;omega
theorem chkC_E {c : ConfD} (h : chkC c = 0) (v : Value) (E : List EndD) (hE : allAt (fun a e => endB a c.S e) [] E = true) (hl : E.length <= 40) : chkC { c with ev := v,E := E } = 0 := by
 obtain ⟨h1,h2,h3,h4,h5,h6,h7⟩ := chkC_ends h
 have h8 : ¬ c.T.all rateB = false /\ ¬ watchB c = false /\ ¬ numB c = false := by
  unfold chkC at h;rw [if_neg (by omega),if_neg (by rw [h4]; decide),if_neg (by rw [h5]; decide),if_neg (by omega),if_neg (by rw [h7]; decide)] at h;split at h
  ·cases h
  ·split at h
   ·cases h
   ·split at h
    ·cases h
    ·exact ⟨by assumption,by assumption,by assumption⟩
 unfold chkC;show (if 10 < c.S.length \/ 40 < E.length \/ 4 < c.T.length then 2 else if allAt svcB [] c.S = false then 13 else if allAt (fun a e => endB a c.S e) [] E = false then 14 else if nerr c.R c.T.length ≠ 0 then nerr c.R c.T.length else if c.R.all (leadB c.S) = false then 13 else if c.T.all rateB = false then 15 else if watchB c = false then 8 else if numB c = false then 8 else 0) = 0;rw [if_neg (by omega),if_neg (by rw [h4]; decide),if_neg (by rw [hE]; decide),if_neg (by omega),if_neg (by rw [h7]; decide),if_neg h8.1,if_neg h8.2.1,if_neg h8.2.2]
theorem fit_E {c : ConfD} (h : ConfFit c) (v : Value) (E : List EndD) (hE : ∀ e ∈ E,EndFit e) (hl : E.length <= 1000) : ConfFit { c with ev := v,E := E } := ⟨h.1,hE,h.2.2.1,h.2.2.2.1,hl,h.2.2.2.2.2⟩
theorem ints_nil (w : World) : Ints w (.slice none 0 0) [] := ⟨by simp,none,0,rfl,by simp,fun i x hi => by simp at hi⟩
theorem rids_any (E : List EndD) (v : Value) (w : World) (hs : Ends w v E) (hl : E.length <= 1000000) :
  Calls Tryz.prog 34 #[v] w fun e w' => ∃ v',e = .returned v' /\ w'.ownsRow w.heap.size 3 1 v' E.length ((E.map EndD.id).flatMap encI) /\ Ext w w' := by
 obtain ⟨hl',a,cap,rfl⟩ := hs.shape;obtain ⟨i0,hi,hz0,hz1,hz2⟩ := info_z' infoI';have HC := hide hs;clear hs
 go_enter Tryz.func34,Tryz.ntmps34
 go_wp2
 go_loopw [3,4] (fun v i wr => ∃ k : Nat,k <= E.length /\ i = .int .i64 k /\ wr.ownsRow w.heap.size 3 1 v k (((E.take k).map EndD.id).flatMap encI) /\ Ext w wr) (fun _ i _ => E.length - (intOf i).toNat)
 case atStart => exact ⟨0,Nat.zero_le _,rfl,⟨by simp,.inl ⟨rfl,rfl⟩⟩,zb⟩
 case round =>
  obtain ⟨k,hk,rfl,hown,hext⟩ := hrel;by_cases hlt : k < E.length
  ·have hltz : (k : Int) < E.length := (by omega);have hwk : IntKind.i64.wrap ((k : Int) + 1) = ((k + 1 : Nat) : Int) := (by rw [IntKind.wrap_i64]; omega);obtain ⟨b,off,rfl,hbb,c1,c2,c3⟩ := ends_at (HC.out.ext hext) k hlt;have hsn : (((E.take (k + 1)).map EndD.id).flatMap encI) = (((E.take k).map EndD.id).flatMap encI) ++ [.int .i64 E[k].id] := (by rw [take_snoc E k hlt,List.map_append,List.flatMap_append]; rfl);generalize E[k] = x at c1 c2 c3 hsn;obtain ⟨x1,x2,x3⟩ := x;simp only [] at c1 c2 c3 hsn;have hsz := hext.size;have HSN := hide hsn;have HX := hide hext;clear hsn hext
   go_wp2_with (at_builtin; refine wpList_append_own _ (by rfl) _ _ 22 (by rfl) w.heap.size 3 i0 (.int .i64 0) 1 8 Tryz.underlying22 hi hz0 hz1 hz2 rfl (by decide) _ k _ (by rfl) (hown.alloc _) ⟨wr.heap.size,0,none⟩ 1 1 [.int .i64 x1] (by rfl) (by rfl) (cells_new wr [.int .i64 x1] 3) (by simp [Value.oneCell']) (by unfold maxLen; omega) (by omega) (by simp; omega) ?_; intro v2 w2 hown2 hgrow2 _)
   go_roundw
   case rel => exact ⟨k + 1,hlt,by go_num,by rw [HSN.out]; exact hown2,ext_app HX.out za hown hgrow2⟩
   case measure => simp [intOf]; omega
  ·obtain rfl : k = E.length := (by omega);rw [List.take_length] at hown;go_wp2;go_ret;exact ⟨_,rfl,hown,hext⟩
theorem lives16_any (w : World) (hm : MaxV w) : Calls Tryz.prog 10 #[] w fun e w' => e = .returned (.bool true) /\ Ext w w' := by
 obtain ⟨cd,hcd1,hcd2⟩ := Tryz.confDesc;have HM := hide hm;clear hm
 go_enter Tryz.func10,Tryz.ntmps10
 go_wp2_with fail
 refine (conf_any [] (.slice none 0 0) w (ints_nil w) (fun _ h => by cases h)).mono ?_;rintro e W1 ⟨c,rfl,hc,ho,E1,-⟩;have hbz := heap_alloc_new W1 (.cells #[.slice none 0 0,.slice none 0 0,.slice none 0 0,.slice none 0 0,.int .i64 0,.int .i64 0,.int .i64 0,.int .i64 0,.int .i64 0,.int .i64 0,.int .i64 0,.int .i64 0,.int .i64 0,.int .i64 0,.int .i64 0,.int .i64 0,.int .i64 0,.int .i64 0,.int .i64 0,.int .i64 0] 30);have hxz : Ext W1 (W1.alloc (.cells #[.slice none 0 0,.slice none 0 0,.slice none 0 0,.slice none 0 0,.int .i64 0,.int .i64 0,.int .i64 0,.int .i64 0,.int .i64 0,.int .i64 0,.int .i64 0,.int .i64 0,.int .i64 0,.int .i64 0,.int .i64 0,.int .i64 0,.int .i64 0,.int .i64 0,.int .i64 0,.int .i64 0] 30)) := za
 have hth : (W1.alloc (.cells #[.slice none 0 0,.slice none 0 0,.slice none 0 0,.slice none 0 0,.int .i64 0,.int .i64 0,.int .i64 0,.int .i64 0,.int .i64 0,.int .i64 0,.int .i64 0,.int .i64 0,.int .i64 0,.int .i64 0,.int .i64 0,.int .i64 0,.int .i64 0,.int .i64 0,.int .i64 0,.int .i64 0] 30)).there W1.heap.size 0 20 := fun q hq => by
  rw [Nat.zero_add];refine ⟨?_,by simp only [World.frozen?]; rw [hbz]; simp⟩;simp only [World.cell?,hbz];simp [hq]
 go_upto_region 2 with (refine wpList_store_mid rfl 30 (.tmp 1) (.tmp 9) rfl W1.heap.size 0 (encC c).toArray rfl rfl hth Tryz.confSize (all_oneCell_toArray (encC_one' ho)) ?_)
 generalize W1.alloc (.cells #[.slice none 0 0,.slice none 0 0,.slice none 0 0,.slice none 0 0,.int .i64 0,.int .i64 0,.int .i64 0,.int .i64 0,.int .i64 0,.int .i64 0,.int .i64 0,.int .i64 0,.int .i64 0,.int .i64 0,.int .i64 0,.int .i64 0,.int .i64 0,.int .i64 0,.int .i64 0,.int .i64 0] 30) = Wz at hbz hxz hth ⊢;obtain ⟨b1,hbe⟩ : ∃ b,W1.heap.size = b := ⟨_,rfl⟩;rw [hbe] at hbz hth ⊢;have hbb1 : w.heap.size <= b1 := by have := (E1).size; omega
 have hrs := World.rangeAt_setCells_same Wz b1 0 (encC c) hth;obtain ⟨cs,hcs1,hcs2⟩ := setCells_block b1 30 (0,0) (encC c) 0 Wz _ hbz;have hk5 := keeps_setCells b1 (encC c) 0 Wz;show Code.wp _ _ _ _ (Wz.setCells b1 0 (encC c));generalize Wz.setCells b1 0 (encC c) = W2 at hrs hk5 hcs1 ⊢;have HB1 := hide (show BoxC W2 b1 c from BoxC.of_range hcs1 (by rw [hcs2]; rfl) hrs);have HX1 := hide (Keeps.ext ((E1).trans hxz) hk5 (fun g hg => by omega));have HO1 := hide (((ho).ext hxz).keepT hk5 (OfT.one hbz) (by decide) (by decide) (by decide) (by decide) (by decide) (by decide) (by decide));have hGb1 : W1.heap.size <= b1 := by omega
 have hEb1 : Ext W1 W2 := ((Keeps.of_ext hxz).trans hk5 : Keeps (fun g => g = b1) W1 W2).below (Nat.le_refl _) (fun g hg => by omega);clear hrs hk5 hcs1 hcs2 hbz hxz hth;have hc1 : W2.cell? ⟨b1,1,none⟩ = some c.ev := HB1.out.cell 1 _ rfl;have hz1 : W2.frozen? ⟨b1,1,none⟩ = false := HB1.out.frozen 1;have hbw := HB1.out.lt
 go_upto_region 3 with (fail)
 have hsz : (W2.setCell ⟨b1,1,none⟩ (.slice (some ⟨W2.heap.size,0,none⟩) 2 2)).heap.size = W2.heap.size := by simp [World.setCell]
 have hlit := World.ownsRow_lit (base := w.heap.size) (e := 53) (size := 3) (W2.setCell ⟨b1,1,none⟩ (.slice (some ⟨W2.heap.size,0,none⟩) 2 2)) #[.int .i64 3,.int .i64 1,.int .i64 1,.int .i64 2,.int .i64 1,.int .i64 1] 2 (by rw [hsz]; exact HX1.out.size) (by unfold maxLen; omega) rfl;rw [hsz] at hlit;have hks := Keeps.of_set (X := fun g => g = b1) W2 b1 1 (.slice (some ⟨W2.heap.size,0,none⟩) 2 2) rfl;have hal : Ext (W2.setCell ⟨b1,1,none⟩ (.slice (some ⟨W2.heap.size,0,none⟩) 2 2)) ((W2.setCell ⟨b1,1,none⟩ (.slice (some ⟨W2.heap.size,0,none⟩) 2 2)).alloc (.cells #[.int .i64 3,.int .i64 1,.int .i64 1,.int .i64 2,.int .i64 1,.int .i64 1] 53)) := za;have hbs := (HB1.out.set (c' := { c with ev := .slice (some ⟨W2.heap.size,0,none⟩) 2 2,E := [⟨3,1,1⟩,⟨2,1,1⟩] }) 1 (.slice (some ⟨W2.heap.size,0,none⟩) 2 2) rfl).ext hal;have hos := ((HO1.out.keepT hks (OfT.one HB1.out) (by decide) (by decide) (by decide) (by decide) (by decide) (by decide) (by decide))).ext hal;generalize (W2.setCell ⟨b1,1,none⟩ (.slice (some ⟨W2.heap.size,0,none⟩) 2 2)).alloc (.cells #[.int .i64 3,.int .i64 1,.int .i64 1,.int .i64 2,.int .i64 1,.int .i64 1] 53) = W3 at hlit hal hbs hos ⊢;obtain ⟨c1,hcn⟩ : ∃ c' : ConfD,({ c with ev := .slice (some ⟨W2.heap.size,0,none⟩) 2 2,E := [⟨3,1,1⟩,⟨2,1,1⟩] } : ConfD) = c' := ⟨_,rfl⟩;have HX2 := hide ((Keeps.ext HX1.out hks (fun g hg => by omega)).trans hal)
 have HO2 := hide (show ConfOwn w.heap.size W3 c1 from by
  rw [<- hcn]
  exact ⟨owns_mono hos.s (Nat.le_refl _),hos.k,hlit,hos.r,hos.rr,hos.t⟩)
 rw [hcn] at hbs;have HB2 := hide hbs;have HCc1 := hide hcn;have hFb1 : Keeps (fun g => g = b1) W2 W3 := hks.trans (Keeps.of_ext hal);clear hbs hos hlit hal hks hsz hc1 hz1 hcn hbw;have HCC := hide hc;clear hc ho E1 HB1 HO1 HX1 hEb1
 go_wp2_with fail
 refine (conf_any [] (.slice none 0 0) W3 (ints_nil _) (fun _ h => by cases h)).mono ?_;rintro e W4 ⟨d,rfl,hd,ho,E4,-⟩;have hbz := heap_alloc_new W4 (.cells #[.slice none 0 0,.slice none 0 0,.slice none 0 0,.slice none 0 0,.int .i64 0,.int .i64 0,.int .i64 0,.int .i64 0,.int .i64 0,.int .i64 0,.int .i64 0,.int .i64 0,.int .i64 0,.int .i64 0,.int .i64 0,.int .i64 0,.int .i64 0,.int .i64 0,.int .i64 0,.int .i64 0] 30);have hxz : Ext W4 (W4.alloc (.cells #[.slice none 0 0,.slice none 0 0,.slice none 0 0,.slice none 0 0,.int .i64 0,.int .i64 0,.int .i64 0,.int .i64 0,.int .i64 0,.int .i64 0,.int .i64 0,.int .i64 0,.int .i64 0,.int .i64 0,.int .i64 0,.int .i64 0,.int .i64 0,.int .i64 0,.int .i64 0,.int .i64 0] 30)) := za
 have hth : (W4.alloc (.cells #[.slice none 0 0,.slice none 0 0,.slice none 0 0,.slice none 0 0,.int .i64 0,.int .i64 0,.int .i64 0,.int .i64 0,.int .i64 0,.int .i64 0,.int .i64 0,.int .i64 0,.int .i64 0,.int .i64 0,.int .i64 0,.int .i64 0,.int .i64 0,.int .i64 0,.int .i64 0,.int .i64 0] 30)).there W4.heap.size 0 20 := fun q hq => by
  rw [Nat.zero_add];refine ⟨?_,by simp only [World.frozen?]; rw [hbz]; simp⟩;simp only [World.cell?,hbz];simp [hq]
 go_upto_region 4 with (refine wpList_store_mid rfl 30 (.tmp 2) (.tmp 14) rfl W4.heap.size 0 (encC d).toArray rfl rfl hth Tryz.confSize (all_oneCell_toArray (encC_one' (owns_mono_conf ho HX2.out.size))) ?_)
 generalize W4.alloc (.cells #[.slice none 0 0,.slice none 0 0,.slice none 0 0,.slice none 0 0,.int .i64 0,.int .i64 0,.int .i64 0,.int .i64 0,.int .i64 0,.int .i64 0,.int .i64 0,.int .i64 0,.int .i64 0,.int .i64 0,.int .i64 0,.int .i64 0,.int .i64 0,.int .i64 0,.int .i64 0,.int .i64 0] 30) = Wz at hbz hxz hth ⊢;obtain ⟨b2,hbe⟩ : ∃ b,W4.heap.size = b := ⟨_,rfl⟩;rw [hbe] at hbz hth ⊢;have hbb2 : w.heap.size <= b2 := by have := ((HX2.out.trans E4)).size; omega
 have hrs := World.rangeAt_setCells_same Wz b2 0 (encC d) hth;obtain ⟨cs,hcs1,hcs2⟩ := setCells_block b2 30 (0,0) (encC d) 0 Wz _ hbz;have hk5 := keeps_setCells b2 (encC d) 0 Wz;show Code.wp _ _ _ _ (Wz.setCells b2 0 (encC d));generalize Wz.setCells b2 0 (encC d) = W5 at hrs hk5 hcs1 ⊢;have HB3 := hide (show BoxC W5 b2 d from BoxC.of_range hcs1 (by rw [hcs2]; rfl) hrs);have HX3 := hide (Keeps.ext (((HX2.out.trans E4)).trans hxz) hk5 (fun g hg => by omega));have HO3 := hide ((((owns_mono_conf ho HX2.out.size)).ext hxz).keepT hk5 (OfT.one hbz) (by decide) (by decide) (by decide) (by decide) (by decide) (by decide) (by decide));have hGb2 : W4.heap.size <= b2 := by omega
 have hEb2 : Ext W4 W5 := ((Keeps.of_ext hxz).trans hk5 : Keeps (fun g => g = b2) W4 W5).below (Nat.le_refl _) (fun g hg => by omega);clear hrs hk5 hcs1 hcs2 hbz hxz hth;have hc1 : W5.cell? ⟨b2,1,none⟩ = some d.ev := HB3.out.cell 1 _ rfl;have hz1 : W5.frozen? ⟨b2,1,none⟩ = false := HB3.out.frozen 1;have hbw := HB3.out.lt
 go_upto_region 5 with (fail)
 have hsz : (W5.setCell ⟨b2,1,none⟩ (.slice (some ⟨W5.heap.size,0,none⟩) 2 2)).heap.size = W5.heap.size := by simp [World.setCell]
 have hlit := World.ownsRow_lit (base := w.heap.size) (e := 53) (size := 3) (W5.setCell ⟨b2,1,none⟩ (.slice (some ⟨W5.heap.size,0,none⟩) 2 2)) #[.int .i64 2,.int .i64 1,.int .i64 1,.int .i64 5,.int .i64 1,.int .i64 1] 2 (by rw [hsz]; exact HX3.out.size) (by unfold maxLen; omega) rfl;rw [hsz] at hlit;have hks := Keeps.of_set (X := fun g => g = b2) W5 b2 1 (.slice (some ⟨W5.heap.size,0,none⟩) 2 2) rfl;have hal : Ext (W5.setCell ⟨b2,1,none⟩ (.slice (some ⟨W5.heap.size,0,none⟩) 2 2)) ((W5.setCell ⟨b2,1,none⟩ (.slice (some ⟨W5.heap.size,0,none⟩) 2 2)).alloc (.cells #[.int .i64 2,.int .i64 1,.int .i64 1,.int .i64 5,.int .i64 1,.int .i64 1] 53)) := za;have hbs := (HB3.out.set (c' := { d with ev := .slice (some ⟨W5.heap.size,0,none⟩) 2 2,E := [⟨2,1,1⟩,⟨5,1,1⟩] }) 1 (.slice (some ⟨W5.heap.size,0,none⟩) 2 2) rfl).ext hal;have hos := ((HO3.out.keepT hks (OfT.one HB3.out) (by decide) (by decide) (by decide) (by decide) (by decide) (by decide) (by decide))).ext hal;generalize (W5.setCell ⟨b2,1,none⟩ (.slice (some ⟨W5.heap.size,0,none⟩) 2 2)).alloc (.cells #[.int .i64 2,.int .i64 1,.int .i64 1,.int .i64 5,.int .i64 1,.int .i64 1] 53) = W6 at hlit hal hbs hos ⊢;obtain ⟨c2,hcn⟩ : ∃ c' : ConfD,({ d with ev := .slice (some ⟨W5.heap.size,0,none⟩) 2 2,E := [⟨2,1,1⟩,⟨5,1,1⟩] } : ConfD) = c' := ⟨_,rfl⟩;have HX4 := hide ((Keeps.ext HX3.out hks (fun g hg => by omega)).trans hal)
 have HO4 := hide (show ConfOwn w.heap.size W6 c2 from by
  rw [<- hcn]
  exact ⟨owns_mono hos.s (Nat.le_refl _),hos.k,hlit,hos.r,hos.rr,hos.t⟩)
 rw [hcn] at hbs;have HB4 := hide hbs;have HCc2 := hide hcn;have hFb2 : Keeps (fun g => g = b2) W5 W6 := hks.trans (Keeps.of_ext hal);clear hbs hos hlit hal hks hsz hc1 hz1 hcn hbw;have hE36 : Ext W3 W6 := E4.trans (((Keeps.of_ext hEb2).trans hFb2).below (Nat.le_refl _) (fun g hg => by omega));have HA := hide (HB2.out.ext hE36);have HAO := hide (HO2.out.ext hE36);have hc1S : c1.S = c.S := by rw [<- HCc1.out]
 have hc2S : c2.S = d.S := by rw [<- HCc2.out]
 have g1 : chkC c1 = 0 /\ ConfFit c1 /\ c1.E.length <= 40 := by
  obtain ⟨q1,q2,q3⟩ := good_conf HCC.out;rw [<- HCc1.out];refine ⟨chkC_E q2 _ _ ?_ (by decide),fit_E q1 _ _ (fun e he => by simp at he; rcases he with rfl | rfl <;> (show I64 _ /\ I64 _ /\ I64 _; decide)) (by decide),by show 2 <= 40; decide⟩
  have ht := thereB_core c.S 1
  rw [show c.S.map SvcD.core = (genC []).S from by
   have : c.core.S = (genC []).S := (by rw [HCC.out]);exact this] at ht
  have ht' : thereB c.S 1 = true := by rw [<- ht]; exact (there_svcsN [] _ 1).2 ⟨by omega,by have := svcsM_bd []; omega⟩
  simp [allAt,endB,inB,ht']
 have g2 : chkC c2 = 0 /\ ConfFit c2 /\ c2.E.length <= 40 := by
  obtain ⟨q1,q2,q3⟩ := good_conf hd;rw [<- HCc2.out];refine ⟨chkC_E q2 _ _ ?_ (by decide),fit_E q1 _ _ (fun e he => by simp at he; rcases he with rfl | rfl <;> (show I64 _ /\ I64 _ /\ I64 _; decide)) (by decide),by show 2 <= 40; decide⟩
  have ht := thereB_core d.S 1
  rw [show d.S.map SvcD.core = (genC []).S from by
   have : d.core.S = (genC []).S := (by rw [hd]);exact this] at ht
  have ht' : thereB d.S 1 = true := by rw [<- ht]; exact (there_svcsN [] _ 1).2 ⟨by omega,by have := svcsM_bd []; omega⟩
  simp [allAt,endB,inB,ht']
 have he1 : c1.E = [⟨3,1,1⟩,⟨2,1,1⟩] := by rw [<- HCc1.out]
 have he2 : c2.E = [⟨2,1,1⟩,⟨5,1,1⟩] := by rw [<- HCc2.out]
 have G1 := hide g1;have G2 := hide g2;have HE1 := hide he1;have HE2 := hide he2;clear hd ho g1 g2 he1 he2 hc1S hc2S hE36 E4 hEb2 hFb2 hFb1 hGb2 HB2 HO2 HX2 HB3 HO3 HX3 HCc1 HCc2 HCC;refine wp_region_lit ?_;refine wpList_load_mid rfl 30 (.tmp 1) rfl b1 0 rfl (encC c1) cd (HA.out).range hcd1 hcd2 Tryz.confSize ?_;simp only [Act.put]
 go_wp2_with fail
 refine (mnew_any 1 w.heap.size c1 W6 (HM.out.ext HX4.out) (HX4.out).size (HAO.out) (G1.out.2.1) (G1.out.2.2)).mono ?_;rintro e W7 ⟨E6,⟨hne,-⟩ | ⟨-,ba,rfl,hsa⟩⟩
 ·exact absurd (G1.out.1) hne
 have E67 := hide E6;have SA := hide hsa;clear E6 hsa;have HB7 := hide (HB4.out.ext E67.out);have HO7 := hide (HO4.out.ext E67.out);have HX7 := hide (HX4.out.trans E67.out);clear HB4 HO4 HA HAO
 go_upto_region 6 with (fail)
 refine wp_region_lit ?_;refine wpList_load_mid rfl 30 (.tmp 2) rfl b2 0 rfl (encC c2) cd (HB7.out).range hcd1 hcd2 Tryz.confSize ?_;simp only [Act.put]
 go_wp2_with fail
 refine (mnew_any 2 w.heap.size c2 W7 (HM.out.ext HX7.out) (HX7.out).size (HO7.out) (G2.out.2.1) (G2.out.2.2)).mono ?_;rintro e W8 ⟨E6,⟨hne,-⟩ | ⟨-,bb,rfl,hsa⟩⟩
 ·exact absurd (G2.out.1) hne
 have E78 := hide E6;have SB := hide hsa;clear E6 hsa;have HX8 := hide (HX7.out.trans E78.out);have SA8 := hide (SA.out.ext E78.out);clear SA HB7 HO7 HX7 HX4 E67 E78 G1 G2;obtain ⟨da,bta,bsa,bra,nba,Ra,ga,sa,hca⟩ := SA8.out;obtain ⟨db,btb,bsb,brb,nbb,Rb,gb,sb,hcb⟩ := SB.out;have hea : da.E = [⟨3,1,1⟩,⟨2,1,1⟩] := (core_E hca).trans HE1.out;have heb : db.E = [⟨2,1,1⟩,⟨5,1,1⟩] := (core_E hcb).trans HE2.out;have IA := hide sa;have IB := hide sb;have HEA := hide hea;have HEB := hide heb;clear sa sb hca hcb hea heb SA8 SB HE1 HE2
 go_wp2_with fail
 refine (diff_any W8 IA.out IB.out).mono ?_;rintro e W9 ⟨v1,v2,rfl,hr1,hr2,E9⟩;rw [HEA.out,HEB.out] at hr1 hr2;have h5 : cameE [⟨3,1,1⟩,⟨2,1,1⟩] [⟨2,1,1⟩,⟨5,1,1⟩] = [5] := by simp [cameE,lacksE,eqE,srtE]
 have h3 : cameE [⟨2,1,1⟩,⟨5,1,1⟩] [⟨3,1,1⟩,⟨2,1,1⟩] = [3] := by simp [cameE,lacksE,eqE,srtE]
 rw [h5] at hr1;rw [h3] at hr2;obtain ⟨va,vc,rfl⟩ := owns_shape hr1;obtain ⟨vb,vd,rfl⟩ := owns_shape hr2;have IA9 := hide (IA.out.ext E9);have IB9 := hide (IB.out.ext E9);have HR1 := hide hr1;have HR2 := hide hr2;have HX9 := hide (HX8.out.trans E9);clear hr1 hr2 E9 IA IB HX8 h5 h3
 go_wp2_with fail
 refine (mends_any 1 W9 IA9.out.box (ends_sl IA9.out.own) IA9.out.nodup IA9.out.few).mono ?_;rintro e W10 ⟨v10,rfl,h10,E10⟩
 have hend : endsAt da.E 1 = [⟨2,1,1⟩,⟨3,1,1⟩] := by
  rw [HEA.out];exact (srtE_unique (l := [⟨3,1,1⟩,⟨2,1,1⟩]) (List.Perm.swap _ _ _) (by decide) (by decide)).symm
 rw [hend] at h10;have H10 := hide h10;have HX10 := hide E10;clear h10 E10 hend
 go_wp2_with fail
 refine (rids_any [⟨2,1,1⟩,⟨3,1,1⟩] v10 W10 (Sl.of_own' encE_len H10.out) (by decide)).mono ?_;rintro e W11 ⟨v11,rfl,h11,E11⟩;have H11 := hide h11;have HX11 := hide (HX10.out.trans E11);clear h11 E11
 go_wp2_with fail
 have hal : Ext W11 (W11.alloc (.cells #[.int .i64 2,.int .i64 3] 3)) := za;have hlit : Ints (W11.alloc (.cells #[.int .i64 2,.int .i64 3] 3)) (.slice (some ⟨W11.heap.size,0,none⟩) 2 2) [2,3] := Sl.of_own' (enc := encI) (fun _ => rfl) (World.ownsRow_lit (base := 0) (e := 3) (size := 1) W11 #[.int .i64 2,.int .i64 3] 2 (Nat.zero_le _) (by unfold maxLen; omega) rfl);refine (sameInts_any [2,3] [2,3] v11 _ _ ((Sl.of_own' (enc := encI) (fun _ => rfl) (show W11.ownsRow _ _ _ _ ([2,3] : List Int).length (([2,3] : List Int).flatMap encI) from H11.out)).ext hal) hlit).mono ?_;rintro e W12 ⟨rfl,E⟩;rw [show sameInts [2,3] [2,3] = true by decide];have HXW12 := hide ((HX11.out).trans (hal.trans E));clear E hal hlit;clear H11 HX10 HX11 H10
 go_wp2_with fail
 have hal : Ext W12 (W12.alloc (.cells #[.int .i64 5] 3)) := za;have hlit : Ints (W12.alloc (.cells #[.int .i64 5] 3)) (.slice (some ⟨W12.heap.size,0,none⟩) 1 1) [5] := Sl.of_own' (enc := encI) (fun _ => rfl) (World.ownsRow_lit (base := 0) (e := 3) (size := 1) W12 #[.int .i64 5] 1 (Nat.zero_le _) (by unfold maxLen; omega) rfl);refine (sameInts_any [5] [5] (.slice va 1 vc) _ _ ((Sl.of_own' (enc := encI) (fun _ => rfl) (show W12.ownsRow _ _ _ _ ([5] : List Int).length (([5] : List Int).flatMap encI) from (owns_ext HR1.out HXW12.out))).ext hal) hlit).mono ?_;rintro e W13 ⟨rfl,E⟩;rw [show sameInts [5] [5] = true by decide];have HXW13 := hide ((HXW12.out).trans (hal.trans E));clear E hal hlit;clear HXW12 HR1
 go_wp2_with fail
 have hal : Ext W13 (W13.alloc (.cells #[.int .i64 3] 3)) := za;have hlit : Ints (W13.alloc (.cells #[.int .i64 3] 3)) (.slice (some ⟨W13.heap.size,0,none⟩) 1 1) [3] := Sl.of_own' (enc := encI) (fun _ => rfl) (World.ownsRow_lit (base := 0) (e := 3) (size := 1) W13 #[.int .i64 3] 1 (Nat.zero_le _) (by unfold maxLen; omega) rfl);refine (sameInts_any [3] [3] (.slice vb 1 vd) _ _ ((Sl.of_own' (enc := encI) (fun _ => rfl) (show W13.ownsRow _ _ _ _ ([3] : List Int).length (([3] : List Int).flatMap encI) from (owns_ext HR2.out HXW13.out))).ext hal) hlit).mono ?_;rintro e W14 ⟨rfl,E⟩;rw [show sameInts [3] [3] = true by decide];have HXW14 := hide ((HXW13.out).trans (hal.trans E));clear E hal hlit;have hv : W14.cell? ⟨bb,0,none⟩ = some (.int .i64 2) := (IB9.out.ext HXW14.out).box.cell 0 _ rfl;clear HXW13 HR2 IA9 IB9
 go_wp2_with fail
 go_ret;exact ⟨rfl,HX9.out.trans HXW14.out⟩
end Go.Proofs.YtoaiakhnnfbkdaaGreatDoor
