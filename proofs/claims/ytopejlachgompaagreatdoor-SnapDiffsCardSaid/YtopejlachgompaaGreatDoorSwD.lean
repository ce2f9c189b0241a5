/- SnapDiffs: its walk (printed by wip/gen_swd.py). -/
import Derived.Test.YtopejlachgompaaGreatDoorZsf
import Derived.Test.YtopejlachgompaaGreatDoorSwL
import Derived.BigFrame
namespace Go.Proofs.YtopejlachgompaaGreatDoor
open Go.ChangeShapes Go.WideShapes Go.ChangeAt Go.RowKit Go.Lib Go.Shelf Go.Maps
set_option maxRecDepth 100000 in
theorem frame131 (x : Nat → Value) : frameOf 131 x = #[x 0, x 1, x 2, x 3, x 4, x 5, x 6, x 7, x 8, x 9, x 10, x 11, x 12, x 13, x 14, x 15, x 16, x 17, x 18, x 19, x 20, x 21, x 22, x 23, x 24, x 25, x 26, x 27, x 28, x 29, x 30, x 31, x 32, x 33, x 34, x 35, x 36, x 37, x 38, x 39, x 40, x 41, x 42, x 43, x 44, x 45, x 46, x 47, x 48, x 49, x 50, x 51, x 52, x 53, x 54, x 55, x 56, x 57, x 58, x 59, x 60, x 61, x 62, x 63, x 64, x 65, x 66, x 67, x 68, x 69, x 70, x 71, x 72, x 73, x 74, x 75, x 76, x 77, x 78, x 79, x 80, x 81, x 82, x 83, x 84, x 85, x 86, x 87, x 88, x 89, x 90, x 91, x 92, x 93, x 94, x 95, x 96, x 97, x 98, x 99, x 100, x 101, x 102, x 103, x 104, x 105, x 106, x 107, x 108, x 109, x 110, x 111, x 112, x 113, x 114, x 115, x 116, x 117, x 118, x 119, x 120, x 121, x 122, x 123, x 124, x 125, x 126, x 127, x 128, x 129, x 130] := rfl
/-- the phases of 'e.Ends[0].Zone = ..' -/
def PhZ (W : World) (g : Nat) (z : Int) : List Value → World → Prop
 | [], w' => Ext W w'
 | _ :: _, w' => ∃ w8, Ext W w8 ∧ Ext (w8.setCell ⟨g, 2, none⟩ (.int .i64 (1 + z))) w'
theorem PhZ.keep {W : World} {g : Nat} {z : Int} : ∀ {vs : List Value} {w' w'' : World}, PhZ W g z vs w' → Ext w' w'' → PhZ W g z vs w''
 | [], _, _, h, e => Ext.trans h e
 | _ :: _, _, _, ⟨w8, h1, h2⟩, e => ⟨w8, h1, h2.trans e⟩
theorem PhZ.x {W : World} {g : Nat} {z : Int} {vs : List Value} {w' : World} (h : PhZ W g z vs w') (hl : vs.length ≤ 0) : Ext W w' := by
 rcases vs with _ | ⟨v, vs⟩
 ·exact h
 ·simp at hl
theorem same_true (xs ys : List Int) {u v : Value} (w : World) (hx : Ints w u xs) (hy : Ints w v ys) (h : xs = ys) :
  Calls Tryz.prog 11 #[u, v] w fun e w' => e = .returned (.bool true) ∧ Ext w w' := by
 subst h
 have h := sameInts_any xs xs u v w hx hy
 rwa [show sameInts xs xs = true from decide_eq_true rfl] at h
def setZ (e : EndD) (z : Int) : EndD := ⟨e.id, e.svc, z⟩
theorem allAt_ids (S : List SvcD) : ∀ (l a a' : List EndD), a.map EndD.id = a'.map EndD.id → allAt (fun a e => endB a S e) a l = allAt (fun a e => endB a S e) a' l
 | [], _, _, _ => rfl
 | x :: l, a, a', h => by
  have h1 : endB a S x = endB a' S x := by
   unfold endB
   have : (a.any fun y => y.id == x.id) = (a'.any fun y => y.id == x.id) := by
    have e1 : (a.any fun y => y.id == x.id) = (a.map EndD.id).any fun q => q == x.id := by rw [List.any_map]; rfl
    have e2 : (a'.any fun y => y.id == x.id) = (a'.map EndD.id).any fun q => q == x.id := by rw [List.any_map]; rfl
    rw [e1, e2, h]
   rw [this]
  show (endB a S x && allAt _ (a ++ [x]) l) = (endB a' S x && allAt _ (a' ++ [x]) l)
  rw [h1, allAt_ids S l (a ++ [x]) (a' ++ [x]) (by rw [List.map_append, List.map_append, h])]
theorem zone_may {S : List SvcD} {E : List EndD} (h : allAt (fun a e => endB a S e) [] E = true) (h0 : 0 < E.length) (z : Int) (hz : 0 ≤ z ∧ z < 4) : allAt (fun a e => endB a S e) [] (E.set 0 (setZ (E[0]) (1 + z))) = true := by
 cases E with
 | nil => simp at h0
 | cons x T =>
  have h' : (endB [] S x && allAt (fun a e => endB a S e) [x] T) = true := h
  rw [Bool.and_eq_true] at h'
  show (endB [] S (setZ (x) (1 + z)) && allAt (fun a e => endB a S e) [(setZ (x) (1 + z))] T) = true
  rw [Bool.and_eq_true]
  refine ⟨?_, ?_⟩
  ·have := h'.1
   unfold endB at this ⊢
   rw [Bool.and_eq_true] at this ⊢
   exact ⟨this.1, (inB_in (n := 1 + z) (by omega) : inB 1 4 (1 + z) = true)⟩
  ·rw [allAt_ids S T [(setZ (x) (1 + z))] [x] rfl]
   exact h'.2
/-- of one endpoint another zone: what came and what went have one ID -/
theorem zone_came {E : List EndD} (hn : (E.map EndD.id).Nodup) (h0 : 0 < E.length) (z : Int) : cameE E (E.set 0 (setZ (E[0]) (z))) = cameE (E.set 0 (setZ (E[0]) (z))) E := by
 cases E with
 | nil => simp at h0
 | cons x T =>
  show cameE (x :: T) ((setZ (x) (z)) :: T) = cameE ((setZ (x) (z)) :: T) (x :: T)
  have hx : ∀ e ∈ T, e.id ≠ x.id := fun e he h => by
   have := (List.nodup_cons.1 (show (x.id :: T.map EndD.id).Nodup from hn)).1
   exact this (List.mem_map.2 ⟨e, he, h⟩)
  by_cases hz : x.zone = z
  ·subst hz
   rfl
  ·have f1 : T.filter (lacksE (x :: T)) = [] := List.filter_eq_nil_iff.2 fun e he => by rw [lacksE_iff]; exact not_not_intro (List.mem_cons_of_mem _ he)
   have f2 : T.filter (lacksE ((setZ (x) (z)) :: T)) = [] := List.filter_eq_nil_iff.2 fun e he => by rw [lacksE_iff]; exact not_not_intro (List.mem_cons_of_mem _ he)
   have g1 : lacksE (x :: T) (setZ (x) (z)) = true := by
    rw [lacksE_iff]
    intro h
    rcases List.mem_cons.1 h with h | h
    ·exact hz (congrArg EndD.zone h).symm
    ·exact hx _ h rfl
   have g2 : lacksE ((setZ (x) (z)) :: T) x = true := by
    rw [lacksE_iff]
    intro h
    rcases List.mem_cons.1 h with h | h
    ·exact hz (congrArg EndD.zone h)
    ·exact hx _ h rfl
   unfold cameE
   rw [List.filter_cons, if_pos g1, List.filter_cons, if_pos g2, f1, f2]
   simp [srtE, setZ]
set_option maxRecDepth 100000 in
set_option maxHeartbeats 16000000 in
theorem diffs_walk (L M : List Int) (zone : Int) (v u : Value) (w : World) (hs : Ints w v L) (hL : ∀ x ∈ L, I64 x) (ht : Ints w u M) (hM : ∀ x ∈ M, I64 x) (hz : I64 zone) (hm : MaxV w) :
  Calls Tryz.prog 3 #[v, u, .int .i64 zone] w fun e w' => e = .returned (.bool true) ∧ Ext w w' := by
 obtain ⟨cd, hcd1, hcd2⟩ := Tryz.confDesc
 have HMD := hide (made16_any L v w hs hL hm)
 obtain ⟨_, a, cap, rfl⟩ := hs.shape
 obtain ⟨_, a', cap', rfl⟩ := ht.shape
 have HM := hide hm
 have HT := hide ht
 have HS := hide hs
 have HL := hide hL
 have HMM := hide hM
 have HZI := hide hz
 clear hs hL hm ht hM hz
 go_enter Tryz.func3, Tryz.ntmps3
 go_wp2_with fail
 refine HMD.out.mono ?_
 rintro e W1 ⟨ba, c, B1, rfl, hc, ho, hB1, hsa, E1⟩
 have HCC := hide hc
 clear hc HMD
 have hbz := heap_alloc_new W1 (.cells #[.slice none 0 0, .slice none 0 0, .slice none 0 0, .slice none 0 0, .int .i64 0, .int .i64 0, .int .i64 0, .int .i64 0, .int .i64 0, .int .i64 0, .int .i64 0, .int .i64 0, .int .i64 0, .int .i64 0, .int .i64 0, .int .i64 0, .int .i64 0, .int .i64 0, .int .i64 0, .int .i64 0] 31)
 have hxz : Ext W1 (W1.alloc (.cells #[.slice none 0 0, .slice none 0 0, .slice none 0 0, .slice none 0 0, .int .i64 0, .int .i64 0, .int .i64 0, .int .i64 0, .int .i64 0, .int .i64 0, .int .i64 0, .int .i64 0, .int .i64 0, .int .i64 0, .int .i64 0, .int .i64 0, .int .i64 0, .int .i64 0, .int .i64 0, .int .i64 0] 31)) := (Below.refl _ _).alloc (Nat.le_refl _) _
 have hth : (W1.alloc (.cells #[.slice none 0 0, .slice none 0 0, .slice none 0 0, .slice none 0 0, .int .i64 0, .int .i64 0, .int .i64 0, .int .i64 0, .int .i64 0, .int .i64 0, .int .i64 0, .int .i64 0, .int .i64 0, .int .i64 0, .int .i64 0, .int .i64 0, .int .i64 0, .int .i64 0, .int .i64 0, .int .i64 0] 31)).there W1.heap.size 0 20 := fun q hq => by
  rw [Nat.zero_add]
  refine ⟨?_, by simp only [World.frozen?]; rw [hbz]; simp⟩
  simp only [World.cell?, hbz]
  simp [hq]
 go_upto_region 2 with (refine wpList_store_mid rfl 31 (.tmp 8) (.tmp 26) rfl W1.heap.size 0 (encC c).toArray rfl rfl hth Tryz.confSize (all_oneCell_toArray (encC_one' ho)) ?_)
 generalize W1.alloc (.cells #[.slice none 0 0, .slice none 0 0, .slice none 0 0, .slice none 0 0, .int .i64 0, .int .i64 0, .int .i64 0, .int .i64 0, .int .i64 0, .int .i64 0, .int .i64 0, .int .i64 0, .int .i64 0, .int .i64 0, .int .i64 0, .int .i64 0, .int .i64 0, .int .i64 0, .int .i64 0, .int .i64 0] 31) = Wz at hbz hxz hth ⊢
 obtain ⟨b8, hbe⟩ : ∃ b, W1.heap.size = b := ⟨_, rfl⟩
 rw [hbe] at hbz hth ⊢
 have hbb8 : w.heap.size ≤ b8 := by have := (E1).size; omega
 have hrs := World.rangeAt_setCells_same Wz b8 0 (encC c) hth
 obtain ⟨cs, hcs1, hcs2⟩ := setCells_block b8 31 (0, 0) (encC c) 0 Wz _ hbz
 have hk5 := keeps_setCells b8 (encC c) 0 Wz
 show Code.wp _ _ _ _ (Wz.setCells b8 0 (encC c))
 generalize Wz.setCells b8 0 (encC c) = W2 at hrs hk5 hcs1 ⊢
 have HB2 := hide (show BoxC W2 b8 c from BoxC.of_range hcs1 (by rw [hcs2]; rfl) hrs)
 have HX2 := hide (Keeps.ext ((E1).trans hxz) hk5 (fun g hg => by omega))
 have HO2 := hide (((ho).ext hxz).keepT hk5 (OfT.one hbz) (by decide) (by decide) (by decide) (by decide) (by decide) (by decide) (by decide))
 have hGb8 : W1.heap.size ≤ b8 := by omega
 have hEb8 : Ext W1 W2 := ((Keeps.of_ext hxz).trans hk5 : Keeps (fun g => g = b8) W1 W2).below (Nat.le_refl _) (fun g hg => by omega)
 clear hrs hk5 hcs1 hcs2 hbz hxz hth
 have HSA2 := hide (hsa.ext hEb8)
 clear ho hsa E1 hEb8
 go_wp2_with fail
 refine (made16_any M _ W2 (HT.out.ext HX2.out) HMM.out (HM.out.ext HX2.out)).mono ?_
 rintro e W3 ⟨bb, d, B2, rfl, hd, ho, hB2, hsb, E3⟩
 have HDD := hide hd
 have hod := hide (owns_mono_conf ho HX2.out.size)
 clear hd ho HT
 have hbz := heap_alloc_new W3 (.cells #[.slice none 0 0, .slice none 0 0, .slice none 0 0, .slice none 0 0, .int .i64 0, .int .i64 0, .int .i64 0, .int .i64 0, .int .i64 0, .int .i64 0, .int .i64 0, .int .i64 0, .int .i64 0, .int .i64 0, .int .i64 0, .int .i64 0, .int .i64 0, .int .i64 0, .int .i64 0, .int .i64 0] 31)
 have hxz : Ext W3 (W3.alloc (.cells #[.slice none 0 0, .slice none 0 0, .slice none 0 0, .slice none 0 0, .int .i64 0, .int .i64 0, .int .i64 0, .int .i64 0, .int .i64 0, .int .i64 0, .int .i64 0, .int .i64 0, .int .i64 0, .int .i64 0, .int .i64 0, .int .i64 0, .int .i64 0, .int .i64 0, .int .i64 0, .int .i64 0] 31)) := (Below.refl _ _).alloc (Nat.le_refl _) _
 have hth : (W3.alloc (.cells #[.slice none 0 0, .slice none 0 0, .slice none 0 0, .slice none 0 0, .int .i64 0, .int .i64 0, .int .i64 0, .int .i64 0, .int .i64 0, .int .i64 0, .int .i64 0, .int .i64 0, .int .i64 0, .int .i64 0, .int .i64 0, .int .i64 0, .int .i64 0, .int .i64 0, .int .i64 0, .int .i64 0] 31)).there W3.heap.size 0 20 := fun q hq => by
  rw [Nat.zero_add]
  refine ⟨?_, by simp only [World.frozen?]; rw [hbz]; simp⟩
  simp only [World.cell?, hbz]
  simp [hq]
 go_upto_region 3 with (refine wpList_store_mid rfl 31 (.tmp 10) (.tmp 31) rfl W3.heap.size 0 (encC d).toArray rfl rfl hth Tryz.confSize (all_oneCell_toArray (encC_one' hod.out)) ?_)
 generalize W3.alloc (.cells #[.slice none 0 0, .slice none 0 0, .slice none 0 0, .slice none 0 0, .int .i64 0, .int .i64 0, .int .i64 0, .int .i64 0, .int .i64 0, .int .i64 0, .int .i64 0, .int .i64 0, .int .i64 0, .int .i64 0, .int .i64 0, .int .i64 0, .int .i64 0, .int .i64 0, .int .i64 0, .int .i64 0] 31) = Wz at hbz hxz hth ⊢
 obtain ⟨b10, hbe⟩ : ∃ b, W3.heap.size = b := ⟨_, rfl⟩
 rw [hbe] at hbz hth ⊢
 have hbb10 : w.heap.size ≤ b10 := by have := ((HX2.out.trans E3)).size; omega
 have hrs := World.rangeAt_setCells_same Wz b10 0 (encC d) hth
 obtain ⟨cs, hcs1, hcs2⟩ := setCells_block b10 31 (0, 0) (encC d) 0 Wz _ hbz
 have hk5 := keeps_setCells b10 (encC d) 0 Wz
 show Code.wp _ _ _ _ (Wz.setCells b10 0 (encC d))
 generalize Wz.setCells b10 0 (encC d) = W4 at hrs hk5 hcs1 ⊢
 have HB4 := hide (show BoxC W4 b10 d from BoxC.of_range hcs1 (by rw [hcs2]; rfl) hrs)
 have HX4 := hide (Keeps.ext (((HX2.out.trans E3)).trans hxz) hk5 (fun g hg => by omega))
 have HO4 := hide (((hod.out).ext hxz).keepT hk5 (OfT.one hbz) (by decide) (by decide) (by decide) (by decide) (by decide) (by decide) (by decide))
 have hGb10 : W3.heap.size ≤ b10 := by omega
 have hEb10 : Ext W3 W4 := ((Keeps.of_ext hxz).trans hk5 : Keeps (fun g => g = b10) W3 W4).below (Nat.le_refl _) (fun g hg => by omega)
 clear hrs hk5 hcs1 hcs2 hbz hxz hth
 have hE24 := E3.trans hEb10
 have HSA4 := hide (HSA2.out.ext hE24)
 have HSB4 := hide (hsb.ext hEb10)
 have HB24 := hide (HB2.out.ext hE24)
 have HO24 := hide (HO2.out.ext hE24)
 clear HSA2 hsb HB2 HO2 hod HX2 E3 hEb10 hE24
 go_wp2_with fail
 refine (conf_any L _ W4 (HS.out.ext HX4.out) HL.out).mono ?_
 rintro e W5 ⟨ce, rfl, he, ho, E5⟩
 have HEE := hide he
 have hgq : ∀ q, ce.ev.ownBlock = some q → W4.heap.size ≤ q := fun q hq => (ho.e.lt q hq).1
 have HGQ := hide hgq
 have hoe := hide (owns_mono_conf ho HX4.out.size)
 clear he ho HS hgq
 have hbz := heap_alloc_new W5 (.cells #[.slice none 0 0, .slice none 0 0, .slice none 0 0, .slice none 0 0, .int .i64 0, .int .i64 0, .int .i64 0, .int .i64 0, .int .i64 0, .int .i64 0, .int .i64 0, .int .i64 0, .int .i64 0, .int .i64 0, .int .i64 0, .int .i64 0, .int .i64 0, .int .i64 0, .int .i64 0, .int .i64 0] 31)
 have hxz : Ext W5 (W5.alloc (.cells #[.slice none 0 0, .slice none 0 0, .slice none 0 0, .slice none 0 0, .int .i64 0, .int .i64 0, .int .i64 0, .int .i64 0, .int .i64 0, .int .i64 0, .int .i64 0, .int .i64 0, .int .i64 0, .int .i64 0, .int .i64 0, .int .i64 0, .int .i64 0, .int .i64 0, .int .i64 0, .int .i64 0] 31)) := (Below.refl _ _).alloc (Nat.le_refl _) _
 have hth : (W5.alloc (.cells #[.slice none 0 0, .slice none 0 0, .slice none 0 0, .slice none 0 0, .int .i64 0, .int .i64 0, .int .i64 0, .int .i64 0, .int .i64 0, .int .i64 0, .int .i64 0, .int .i64 0, .int .i64 0, .int .i64 0, .int .i64 0, .int .i64 0, .int .i64 0, .int .i64 0, .int .i64 0, .int .i64 0] 31)).there W5.heap.size 0 20 := fun q hq => by
  rw [Nat.zero_add]
  refine ⟨?_, by simp only [World.frozen?]; rw [hbz]; simp⟩
  simp only [World.cell?, hbz]
  simp [hq]
 go_upto_region 6 with (refine wpList_store_mid rfl 31 (.tmp 11) (.tmp 39) rfl W5.heap.size 0 (encC ce).toArray rfl rfl hth Tryz.confSize (all_oneCell_toArray (encC_one' hoe.out)) ?_)
 generalize W5.alloc (.cells #[.slice none 0 0, .slice none 0 0, .slice none 0 0, .slice none 0 0, .int .i64 0, .int .i64 0, .int .i64 0, .int .i64 0, .int .i64 0, .int .i64 0, .int .i64 0, .int .i64 0, .int .i64 0, .int .i64 0, .int .i64 0, .int .i64 0, .int .i64 0, .int .i64 0, .int .i64 0, .int .i64 0] 31) = Wz at hbz hxz hth ⊢
 obtain ⟨b11, hbe⟩ : ∃ b, W5.heap.size = b := ⟨_, rfl⟩
 rw [hbe] at hbz hth ⊢
 have hbb11 : w.heap.size ≤ b11 := by have := ((HX4.out.trans E5)).size; omega
 have hrs := World.rangeAt_setCells_same Wz b11 0 (encC ce) hth
 obtain ⟨cs, hcs1, hcs2⟩ := setCells_block b11 31 (0, 0) (encC ce) 0 Wz _ hbz
 have hk5 := keeps_setCells b11 (encC ce) 0 Wz
 show Code.wp _ _ _ _ (Wz.setCells b11 0 (encC ce))
 generalize Wz.setCells b11 0 (encC ce) = W6 at hrs hk5 hcs1 ⊢
 have HB6 := hide (show BoxC W6 b11 ce from BoxC.of_range hcs1 (by rw [hcs2]; rfl) hrs)
 have HX6 := hide (Keeps.ext (((HX4.out.trans E5)).trans hxz) hk5 (fun g hg => by omega))
 have HO6 := hide (((hoe.out).ext hxz).keepT hk5 (OfT.one hbz) (by decide) (by decide) (by decide) (by decide) (by decide) (by decide) (by decide))
 have hGb11 : W5.heap.size ≤ b11 := by omega
 have hEb11 : Ext W5 W6 := ((Keeps.of_ext hxz).trans hk5 : Keeps (fun g => g = b11) W5 W6).below (Nat.le_refl _) (fun g hg => by omega)
 clear hrs hk5 hcs1 hcs2 hbz hxz hth
 have hE46 := E5.trans hEb11
 clear hoe E5 hEb11 HX4 HL HMM
 have hl0 : 0 < ce.E.length := by
  have h1 : ce.E = (genC L).E := by have : ce.core.E = (genC L).E := by rw [HEE.out]
                                    exact this
  rw [h1]
  show 0 < (endsA L (svcsM L) ++ endsZ L (svcsM L) (endsM L)).length
  rw [List.length_append, endsA_len]
  have := svcsM_bd L
  omega
 have hfe := HO6.out.e
 obtain ⟨g, ge, hev, hge⟩ := owns_form hfe hl0
 have hg4 : W4.heap.size ≤ g := HGQ.out g (by rw [hev]; rfl)
 rw [hev] at hfe
 have HEV := hide hev
 have HOE := hide hfe
 have HL0 := hide hl0
 have hzb := around_bd zone 4 (by omega)
 obtain ⟨z, hze⟩ : ∃ z, around zone 4 = z := ⟨_, rfl⟩
 rw [hze] at hzb
 have HZE := hide hze
 have HZB := hide hzb
 have HW4 := hide (show IntKind.i64.wrap (1 + z) = 1 + z by rw [IntKind.wrap_i64]; omega)
 have hce : ∀ X, Ext W6 X → X.cell? ⟨g, 2, none⟩ = some (.int .i64 (ce.E[0]'hl0).zone) ∧ X.frozen? ⟨g, 2, none⟩ = false := fun X hX => by
  have := cell_row encE_len (owns_ext hfe hX) 0 hl0 2 _ rfl
  simpa using this
 have HCE := hide hce
 have hl0z : (0 : Int) < ce.E.length := by omega
 obtain ⟨c7, hc7⟩ : ∃ c' : ConfD, ({ ce with E := ce.E.set 0 (setZ (ce.E[0]) (1 + z)) } : ConfD) = c' := ⟨_, rfl⟩
 have HC7 := hide hc7
 clear hfe hev hze hzb hce hc7
 refine wp_region_rw 131 [7] [40, 41, 42, 43, 44, 45, 46] (PhZ W6 g z) (fun (t : Nat) (wI : World) (v : Value) => match t with | 40 => v = (.pointer (some ⟨b11, 1, none⟩)) | 41 => v = (.slice (some ⟨g, 0, none⟩) ce.E.length ge) | 42 => v = (.int .i64 zone) | 43 => v = (.int .i64 z) | 44 => v = (.int .i64 (1 + z)) | 45 => v = (.pointer (some ⟨g, 0, none⟩)) | 46 => v = (.pointer (some ⟨g, 2, none⟩)) | _ => True) (fun _ _ => True) (by kernel_rfl) rfl (by kernel_rfl) (by kernel_rfl) (by kernel_rfl) (by kernel_rfl) ?_ ?_ ?_ ?_ ?_ ?_ ?_
 ·intro w' w'' h
  trivial
 ·intro t w' w'' v hR hv
  exact hv
 ·intro vs w' w'' h e
  exact h.keep e
 ·exact (Below.refl _ _).drew
 ·intro i o ho hmi vs X w' hpk hph hX hI hF K hK
  have hin : i < 8 := (Array.getElem?_eq_some_iff.1 ho).1
  have hi : i = 0 ∨ i = 1 ∨ i = 2 ∨ i = 3 ∨ i = 4 ∨ i = 5 ∨ i = 6 ∨ i = 7 := by omega
  rcases hi with rfl | rfl | rfl | rfl | rfl | rfl | rfl | rfl
  ·obtain rfl := Option.some.inj ho
   have e11 : X 11 = (.pointer (some ⟨b11, 0, none⟩)) := hF 11 (by omega) (by kernel_rfl)
   unfold wpOp
   simp only [ho]
   rw [if_pos (by rfl)]
   left
   rw [frame131]
   go_simp
   refine metK (hK.out ((.pointer (some ⟨b11, 1, none⟩))) _ (Below.refl _ _) (fun d hd => by cases hd; exact rfl)) ?_
   simp [frame131, Act.put, *]
  ·obtain rfl := Option.some.inj ho
   have e40 : X 40 = (.pointer (some ⟨b11, 1, none⟩)) := hI 40 (by kernel_rfl) (by kernel_rfl)
   have hx := hph.x ((hpk 0 (by decide)).2 (by kernel_rfl))
   have q := (HB6.out.ext hx).cell 1 _ rfl
   rw [HEV.out] at q
   unfold wpOp
   simp only [ho]
   rw [if_pos (by rfl)]
   left
   rw [frame131]
   go_simp
   refine metK (hK.out ((.slice (some ⟨g, 0, none⟩) ce.E.length ge)) _ (Below.refl _ _) (fun d hd => by cases hd; exact rfl)) ?_
   simp [frame131, Act.put, *]
  ·obtain rfl := Option.some.inj ho
   have e2 : X 2 = (.int .i64 zone) := hF 2 (by omega) (by kernel_rfl)
   unfold wpOp
   simp only [ho]
   rw [if_pos (by rfl)]
   left
   rw [frame131]
   go_simp
   refine metK (hK.out ((.int .i64 zone)) _ (Below.refl _ _) (fun d hd => by cases hd; exact rfl)) ?_
   simp [frame131, Act.put, *]
  ·obtain rfl := Option.some.inj ho
   have e42 : X 42 = (.int .i64 zone) := hI 42 (by kernel_rfl) (by kernel_rfl)
   unfold wpOp
   simp only [ho]
   rw [if_pos (by rfl)]
   left
   rw [frame131]
   go_simp
   refine (around_any zone 4 w' HZI.out (by omega)).mono ?_
   rintro e w9 ⟨rfl, rfl⟩
   rw [HZE.out]
   refine metK (hK.out (.int .i64 z) _ (Below.refl _ _) (fun d hd => by cases hd; rfl)) ?_
   simp [frame131, Act.put, *]
  ·obtain rfl := Option.some.inj ho
   have e43 : X 43 = (.int .i64 z) := hI 43 (by kernel_rfl) (by kernel_rfl)
   have hw4 := HW4.out
   unfold wpOp
   simp only [ho]
   rw [if_pos (by rfl)]
   left
   rw [frame131]
   go_simp
   refine metK (hK.out ((.int .i64 (1 + z))) _ (Below.refl _ _) (fun d hd => by cases hd; exact rfl)) ?_
   simp [frame131, Act.put, *]
  ·obtain rfl := Option.some.inj ho
   have e41 : X 41 = (.slice (some ⟨g, 0, none⟩) ce.E.length ge) := hI 41 (by kernel_rfl) (by kernel_rfl)
   have hl0 := HL0.out
   unfold wpOp
   simp only [ho]
   rw [if_pos (by rfl)]
   left
   rw [frame131]
   go_simp
   refine metK (hK.out ((.pointer (some ⟨g, 0, none⟩))) _ (Below.refl _ _) (fun d hd => by cases hd; exact rfl)) ?_
   simp [frame131, Act.put, *]
  ·obtain rfl := Option.some.inj ho
   have e45 : X 45 = (.pointer (some ⟨g, 0, none⟩)) := hI 45 (by kernel_rfl) (by kernel_rfl)
   unfold wpOp
   simp only [ho]
   rw [if_pos (by rfl)]
   left
   rw [frame131]
   go_simp
   refine metK (hK.out ((.pointer (some ⟨g, 2, none⟩))) _ (Below.refl _ _) (fun d hd => by cases hd; exact rfl)) ?_
   simp [frame131, Act.put, *]
  ·exact absurd hmi (by decide)
 ·intro i o ho hmi vs X w' hqi hql hph hX hI hF K hK
  rcases vs with _ | ⟨v0, _⟩
  ·obtain rfl : 7 = i := hqi
   obtain rfl := Option.some.inj ho
   have e44 : X 44 = (.int .i64 (1 + z)) := hI 44 (by kernel_rfl) (by kernel_rfl)
   have e46 : X 46 = (.pointer (some ⟨g, 2, none⟩)) := hI 46 (by kernel_rfl) (by kernel_rfl)
   have hx : Ext W6 w' := hph
   have hc2 := HCE.out _ hx
   unfold wpOp
   simp only [ho]
   rw [if_pos (by rfl)]
   left
   rw [frame131]
   go_simp
   refine metK (hK.out undef _ ⟨w', hx, Below.refl _ _⟩ trivial) ?_
   simp [frame131, Act.put, *]
  ·simp at hql <;> omega
 ·intro vs X w' hlen hph hX hI
  have e40 : X 40 = (.pointer (some ⟨b11, 1, none⟩)) := hI 40 (by omega) (by kernel_rfl) (by kernel_rfl)
  have e41 : X 41 = (.slice (some ⟨g, 0, none⟩) ce.E.length ge) := hI 41 (by omega) (by kernel_rfl) (by kernel_rfl)
  have e42 : X 42 = (.int .i64 zone) := hI 42 (by omega) (by kernel_rfl) (by kernel_rfl)
  have e43 : X 43 = (.int .i64 z) := hI 43 (by omega) (by kernel_rfl) (by kernel_rfl)
  have e44 : X 44 = (.int .i64 (1 + z)) := hI 44 (by omega) (by kernel_rfl) (by kernel_rfl)
  have e45 : X 45 = (.pointer (some ⟨g, 0, none⟩)) := hI 45 (by omega) (by kernel_rfl) (by kernel_rfl)
  have e46 : X 46 = (.pointer (some ⟨g, 2, none⟩)) := hI 46 (by omega) (by kernel_rfl) (by kernel_rfl)
  rcases vs with _ | ⟨v0, _ | ⟨vz, vs⟩⟩
  ·simp at hlen
  rotate_left
  ·simp at hlen
  clear hX hI hlen
  simp only [overF, List.foldl_cons, List.foldl_nil, List.setIfInBounds_toArray, List.set_cons_succ, List.set_cons_zero, e40, e41, e42, e43, e44, e45, e46]
  obtain ⟨w8, E8, E9⟩ := hph
  have hs8 := owns_ext HOE.out E8
  have hks := Keeps.of_set (X := fun q => q = g) w8 g 2 (.int .i64 (1 + z)) rfl
  have hot : OfT w8 (fun q => q = g) 37 := fun q hq => by subst hq; exact OfT.own hs8 q rfl
  have hgb : w.heap.size ≤ g := (hs8.lt g rfl).1
  have hE' := owns_set1 encE_len hs8 0 2 HL0.out (by decide) (.int .i64 (1 + z)) (setZ (ce.E[0]'HL0.out) (1 + z)) rfl
  have hoc := ((HO6.out.ext E8).k)
  have HO7 := hide (show ConfOwn w.heap.size w' c7 from by
   rw [← HC7.out]
   exact
    ⟨owns_ext (owns_keepT (HO6.out.ext E8).s hks hot (by decide)) E9, fun s hs => owns_ext (owns_keepT ((HO6.out.ext E8).k s hs) hks hot (by decide)) E9, by
     show World.ownsRow _ _ _ _ ce.ev (ce.E.set 0 _).length _
     rw [List.length_set, HEV.out]
     have := owns_ext hE' E9
     exact this, owns_ext (owns_keepT (HO6.out.ext E8).r hks hot (by decide)) E9, fun r hr => ((((HO6.out.ext E8).rr r hr).keepT hks hot (by decide) (by decide) (by decide))).ext E9, owns_ext (owns_keepT (HO6.out.ext E8).t hks hot (by decide)) E9⟩)
  have hEx : Ext w w' := (Keeps.ext (HX6.out.trans E8) hks (fun q hq => by omega)).trans E9
  have hbk : ∀ q, q ≠ g → q < W6.heap.size → w'.heap[q]? = W6.heap[q]? := fun q h1 h2 => by
   have e1 := E8.block q h2
   have e2 := Below.heap_setCell w8 ⟨g, 2, none⟩ (.int .i64 (1 + z)) q h1
   have e3 := E9.block q (by have := E8.size; simp [World.setCell]; omega)
   exact e3.trans (e2.trans e1)
  have hE47 : Ext W4 w' := Ext.trans ((((Keeps.of_ext (hE46.trans E8)).trans hks) : Keeps (fun q => q = g) W4 _).below (Nat.le_refl _) (fun q hq => by omega)) E9
  have hbg : b11 ≠ g := fun e => by
   obtain ⟨cs', f', h'⟩ := hot g rfl
   have h2 := HB6.out.ext E8
   rw [e] at h2
   unfold BoxC at h2
   rw [h'] at h2
   cases h2
  have HB7 := hide (show BoxC w' b11 c7 from by
   rw [← HC7.out]
   exact (hbk b11 hbg HB6.out.lt).trans HB6.out)
  have HX7 := hide hEx
  have HE47 := hide hE47
  clear hs8 hks hot hgb hE' hoc hEx hbk hE47 hbg E8 E9 e40 e41 e42 e43 e44 e45 e46
  generalize w' = W7 at *
  have hc7 := HC7.out
  have g0 := good_conf HEE.out
  have hcE : ce.E = c.E := by
   have e1 : ce.core.E = c.core.E := by rw [HEE.out, HCC.out]
   exact e1
  have he7 : c7.E = ce.E.set 0 (setZ (ce.E[0]) (1 + z)) := by rw [← hc7]
  have hnd := ends_nodup (chkC_ends g0.2.1).2.2.2.2.1
  have hzc : cameE c.E c7.E = cameE c7.E c.E := by rw [he7, ← hcE]; exact zone_came hnd hl0 (1 + z)
  have hlen7 : c7.E.length = ce.E.length := by rw [he7, List.length_set]
  have hmay := zone_may (chkC_ends g0.2.1).2.2.2.2.1 hl0 z HZB.out
  have G7 := hide (show chkC c7 = 0 ∧ ConfFit c7 ∧ c7.E.length ≤ 19 from by
   refine ⟨?_, ?_, by rw [hlen7]; exact Nat.le_trans g0.2.2 (by decide)⟩
   ·rw [← hc7]
    exact chkC_E g0.2.1 ce.ev _ hmay (by rw [List.length_set]; exact Nat.le_trans g0.2.2 (by decide))
   ·rw [← hc7]
    refine fit_E g0.1 ce.ev _ (fun e he => ?_) (by rw [List.length_set]; exact Nat.le_trans g0.2.2 (by decide))
    have hb := ends_in hmay he
    obtain ⟨-, h1, h2⟩ := right_svc (c := { ce with ev := ce.ev, E := ce.E.set 0 (setZ (ce.E[0]) (1 + z)) }) (chkC_E g0.2.1 ce.ev _ hmay (by rw [List.length_set]; exact Nat.le_trans g0.2.2 (by decide))) he
    exact ⟨by constructor <;> omega, by constructor <;> omega, by constructor <;> omega⟩)
  have hb7 : allAt (fun a e => endB a c7.S e) [] c7.E = true := (chkC_ends G7.out.1).2.2.2.2.1
  have gc := good_conf HCC.out
  have gd := good_conf HDD.out
  have hbc := (chkC_ends gc.2.1).2.2.2.2.1
  have hbd := (chkC_ends gd.2.1).2.2.2.2.1
  have HZC := hide hzc
  have HBY7 := hide (fun p => byId_eq p hb7)
  have HBYC := hide (fun p => byId_eq p hbc)
  have HBYD := hide (fun p => byId_eq p hbd)
  have hlc : c.E.length ≤ 40 := Nat.le_trans gc.2.2 (by decide)
  have hld' : d.E.length ≤ 40 := Nat.le_trans gd.2.2 (by decide)
  have hl7 : c7.E.length ≤ 40 := Nat.le_trans G7.out.2.2 (by decide)
  have HLC := hide hlc
  have HLD := hide hld'
  have HL7 := hide hl7
  clear hc7 HC7 g0 hcE he7 hnd hzc hlen7 hmay hb7 gc gd hbc hbd hlc hld' hl7 HEE HCC HDD HZB HOE HEV HW4 HCE hl0z HGQ HL0 HZE HO6 HX6 HB6
  go_upto_region 7 with (fail)
  refine wp_region_lit ?_
  refine wpList_load_mid rfl 31 (.tmp 11) rfl b11 0 rfl (encC c7) cd (HB7.out).range hcd1 hcd2 Tryz.confSize ?_
  simp only [Act.put]
  go_wp2_with fail
  refine (mnew_any 9 w.heap.size c7 W7 (HM.out.ext HX7.out) (HX7.out).size (HO7.out) (G7.out.2.1) (G7.out.2.2)).mono ?_
  rintro e W8 ⟨E6, ⟨hne, -⟩ | ⟨-, bx, rfl, hsa⟩⟩
  ·exact absurd (G7.out.1) hne
  have E78 := hide E6
  have SX := hide hsa
  clear E6 hsa
  have hE48 := HE47.out.trans E78.out
  obtain ⟨da, bta, bsa, bra, nba, Ra, ga, sa, hca⟩ := HSA4.out.ext hE48
  obtain ⟨db, btb, bsb, brb, nbb, Rb, gb, sb, hcb⟩ := HSB4.out.ext hE48
  obtain ⟨dx, btx, bsx, brx, nbx, Rx, gx, sx, hcx⟩ := SX.out
  have hea := core_E hca
  have heb := core_E hcb
  have hex := core_E hcx
  have IA := hide sa
  have IB := hide sb
  have IX := hide sx
  have HEA := hide hea
  have HEB := hide heb
  have HEX := hide hex
  have HX8 := hide (HX7.out.trans E78.out)
  have HB8 := hide (HB24.out.ext hE48)
  have HO8 := hide (HO24.out.ext hE48)
  have HBD8 := hide (HB4.out.ext hE48)
  have HOD8 := hide (HO4.out.ext hE48)
  have HB78 := hide (HB7.out.ext E78.out)
  have HO78 := hide (HO7.out.ext E78.out)
  clear hE48 sa sb sx hca hcb hcx hea heb hex HSA4 HSB4 SX HX7 E78 HB24 HO24 HB4 HO4 HB7 HO7 HE47 hE46
  go_wp2_with fail
  refine (diff_any W8 IA.out IB.out).mono ?_
  rintro e W9 ⟨x1, y1, rfl, hr1, hs1, E1⟩
  rw [HEA.out, HEB.out] at hr1 hs1
  obtain ⟨xa1, xc1, rfl⟩ := owns_shape hr1
  obtain ⟨ya1, yc1, rfl⟩ := owns_shape hs1
  have P1 := hide (Sl.of_own' (enc := encI) (fun _ => rfl) hr1)
  have Q1 := hide (Sl.of_own' (enc := encI) (fun _ => rfl) hs1)
  have HE1 := hide E1
  clear hr1 hs1 E1
  go_wp2_with fail
  refine (diff_any W9 (IB.out.ext HE1.out) (IA.out.ext HE1.out)).mono ?_
  rintro e W10 ⟨x2, y2, rfl, hr2, hs2, E2⟩
  rw [HEB.out, HEA.out] at hr2 hs2
  obtain ⟨xa2, xc2, rfl⟩ := owns_shape hr2
  obtain ⟨ya2, yc2, rfl⟩ := owns_shape hs2
  have P2 := hide (Sl.of_own' (enc := encI) (fun _ => rfl) hr2)
  have Q2 := hide (Sl.of_own' (enc := encI) (fun _ => rfl) hs2)
  have HE2 := hide E2
  clear hr2 hs2 E2
  have HE12 := hide (HE1.out.trans HE2.out)
  go_wp2_with fail
  refine (diff_any W10 (IA.out.ext HE12.out) (IA.out.ext HE12.out)).mono ?_
  rintro e W11 ⟨x3, y3, rfl, hr3, hs3, E3⟩
  rw [HEA.out, cameE_self] at hr3 hs3
  obtain ⟨xa3, xc3, rfl⟩ := owns_shape hr3
  obtain ⟨ya3, yc3, rfl⟩ := owns_shape hs3
  have P3 := hide (Sl.of_own' (enc := encI) (fun _ => rfl) hr3)
  have Q3 := hide (Sl.of_own' (enc := encI) (fun _ => rfl) hs3)
  have HE3 := hide E3
  clear hr3 hs3 E3
  have HE13 := hide (HE12.out.trans HE3.out)
  go_wp2_with fail
  refine (diff_any W11 (IA.out.ext HE13.out) (IX.out.ext HE13.out)).mono ?_
  rintro e W12 ⟨x4, y4, rfl, hr4, hs4, E4⟩
  rw [HEA.out, HEX.out] at hr4 hs4
  obtain ⟨xa4, xc4, rfl⟩ := owns_shape hr4
  obtain ⟨ya4, yc4, rfl⟩ := owns_shape hs4
  have P4 := hide (Sl.of_own' (enc := encI) (fun _ => rfl) hr4)
  have Q4 := hide (Sl.of_own' (enc := encI) (fun _ => rfl) hs4)
  have HE4 := hide E4
  clear hr4 hs4 E4
  have HE14 := hide (HE13.out.trans HE4.out)
  have EC := hide ((ends_sl HO8.out).ext HE14.out)
  have ED := hide ((ends_sl HOD8.out).ext HE14.out)
  have E7 := hide ((ends_sl HO78.out).ext HE14.out)
  have HV8 := hide (show ∀ X, Ext W12 X → BoxC X b8 c from fun X hX => HB8.out.ext (HE14.out.trans hX))
  have HV10 := hide (show ∀ X, Ext W12 X → BoxC X b10 d from fun X hX => HBD8.out.ext (HE14.out.trans hX))
  have HV11 := hide (show ∀ X, Ext W12 X → BoxC X b11 c7 from fun X hX => HB78.out.ext (HE14.out.trans hX))
  have HX12 := hide (HX8.out.trans HE14.out)
  have A1 := hide (P1.out.ext (HE2.out.trans (HE3.out.trans HE4.out)))
  have A2 := hide (Q1.out.ext (HE2.out.trans (HE3.out.trans HE4.out)))
  have A3 := hide (P2.out.ext (HE3.out.trans HE4.out))
  have A4 := hide (Q2.out.ext (HE3.out.trans HE4.out))
  have A5 := P4
  have A6 := Q4
  have HK12 := hide (show Ext W12 W12 from Below.refl _ _)
  clear HE1 HE2 HE3 HE4 HE12 HE13 HE14 HX8 HB8 HBD8 HB78 HO8 HOD8 HO78 IA IB IX HEA HEB HEX P1 Q1 P2 Q2 P3 Q3 P4 Q4
  go_wp2_with (first | (refine wpList_load_mid rfl 31 (.tmp 10) rfl b10 0 rfl (encC d) cd ((HV10.out W12 HK12.out).range) hcd1 hcd2 Tryz.confSize ?_; simp only [Act.put]) | (refine wpList_load_mid rfl 31 (.tmp 8) rfl b8 0 rfl (encC c) cd ((HV8.out W12 HK12.out).range) hcd1 hcd2 Tryz.confSize ?_; simp only [Act.put]))
  refine (less_any d c W12 (ED.out.ext HK12.out) (EC.out.ext HK12.out) HLD.out HLC.out).mono ?_
  rintro e W13 ⟨z13, rfl, hr, E13⟩
  rw [show (byId 40 (lacksE c.E) d.E).map EndD.id = cameE c.E d.E from congrArg (List.map EndD.id) (HBYD.out _)] at hr
  obtain ⟨za13, zc13, rfl⟩ := owns_shape hr
  have R := hide (Sl.of_own' (enc := encI) (fun _ => rfl) hr)
  have HK13 := hide (HK12.out.trans E13)
  clear hr E13
  go_wp2_with fail
  refine (same_true _ _ W13 (A1.out.ext HK13.out) (R.out) rfl).mono ?_
  rintro e W14 ⟨rfl, E14⟩
  have HK14 := hide (HK13.out.trans E14)
  clear E14 R HK13
  go_wp2_with (first | (refine BigFrame.wpList_want (by rfl) fun K hK => ?_; refine wp_load_mid 31 (.tmp 8) rfl b8 0 rfl (encC c) cd ((HV8.out W14 HK14.out).range) hcd1 hcd2 Tryz.confSize ?_; refine hK _ _ ?_; simp only [Act.put]) | (refine BigFrame.wpList_want (by rfl) fun K hK => ?_; refine wp_load_mid 31 (.tmp 10) rfl b10 0 rfl (encC d) cd ((HV10.out W14 HK14.out).range) hcd1 hcd2 Tryz.confSize ?_; refine hK _ _ ?_; simp only [Act.put]) | (refine BigFrame.wpList_want (by rfl) fun K hK => ?_; go_simp; refine hK _ _ ?_; (try simp only [Act.put])))
  refine (less_any c d W14 (EC.out.ext HK14.out) (ED.out.ext HK14.out) HLC.out HLD.out).mono ?_
  rintro e W15 ⟨z15, rfl, hr, E15⟩
  rw [show (byId 40 (lacksE d.E) c.E).map EndD.id = cameE d.E c.E from congrArg (List.map EndD.id) (HBYC.out _)] at hr
  obtain ⟨za15, zc15, rfl⟩ := owns_shape hr
  have R := hide (Sl.of_own' (enc := encI) (fun _ => rfl) hr)
  have HK15 := hide (HK14.out.trans E15)
  clear hr E15
  go_wp2_with fail
  refine (same_true _ _ W15 (A2.out.ext HK15.out) (R.out) rfl).mono ?_
  rintro e W16 ⟨rfl, E16⟩
  have HK16 := hide (HK15.out.trans E16)
  clear E16 R HK15
  go_wp2_with fail
  refine (same_true _ _ W16 (A1.out.ext HK16.out) (A4.out.ext HK16.out) rfl).mono ?_
  rintro e W17 ⟨rfl, E17⟩
  have HK17 := hide (HK16.out.trans E17)
  clear E17
  go_wp2_with fail
  refine (same_true _ _ W17 (A2.out.ext HK17.out) (A3.out.ext HK17.out) rfl).mono ?_
  rintro e W18 ⟨rfl, E18⟩
  have HK18 := hide (HK17.out.trans E18)
  clear E18
  go_wp2_with (first | (refine BigFrame.wpList_want (by rfl) fun K hK => ?_; refine wp_load_mid 31 (.tmp 11) rfl b11 0 rfl (encC c7) cd ((HV11.out W18 HK18.out).range) hcd1 hcd2 Tryz.confSize ?_; refine hK _ _ ?_; simp only [Act.put]) | (refine BigFrame.wpList_want (by rfl) fun K hK => ?_; refine wp_load_mid 31 (.tmp 8) rfl b8 0 rfl (encC c) cd ((HV8.out W18 HK18.out).range) hcd1 hcd2 Tryz.confSize ?_; refine hK _ _ ?_; simp only [Act.put]) | (refine BigFrame.wpList_want (by rfl) fun K hK => ?_; go_simp; refine hK _ _ ?_; (try simp only [Act.put])))
  refine (less_any c7 c W18 (E7.out.ext HK18.out) (EC.out.ext HK18.out) HL7.out HLC.out).mono ?_
  rintro e W19 ⟨z19, rfl, hr, E19⟩
  rw [show (byId 40 (lacksE c.E) c7.E).map EndD.id = cameE c.E c7.E from congrArg (List.map EndD.id) (HBY7.out _)] at hr
  obtain ⟨za19, zc19, rfl⟩ := owns_shape hr
  have R := hide (Sl.of_own' (enc := encI) (fun _ => rfl) hr)
  have HK19 := hide (HK18.out.trans E19)
  clear hr E19
  go_wp2_with fail
  refine (same_true _ _ W19 (A5.out.ext HK19.out) (R.out) rfl).mono ?_
  rintro e W20 ⟨rfl, E20⟩
  have HK20 := hide (HK19.out.trans E20)
  clear E20 R HK19
  go_wp2_with fail
  refine (same_true _ _ W20 (A6.out.ext HK20.out) (A5.out.ext HK20.out) HZC.out.symm).mono ?_
  rintro e W21 ⟨rfl, E21⟩
  have HK21 := hide (HK20.out.trans E21)
  clear E21
  go_wp2_with fail
  refine (lives16_any W21 (HM.out.ext (HX12.out.trans HK21.out))).mono ?_
  rintro e W22 ⟨rfl, E22⟩
  have HXX := HX12.out.trans (HK21.out.trans E22)
  clear E22
  go_wp2_with fail
  go_ret
  exact ⟨rfl, HXX⟩
end Go.Proofs.YtopejlachgompaaGreatDoor
