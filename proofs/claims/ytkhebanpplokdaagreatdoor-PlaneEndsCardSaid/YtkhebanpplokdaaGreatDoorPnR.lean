import Derived.Test.YtkhebanpplokdaaGreatDoorZpn
import Derived.Test.YtkhebanpplokdaaGreatDoorZsf
namespace Go.Proofs.YtkhebanpplokdaaGreatDoor
open Go.ChangeShapes Go.WideShapes Go.ChangeAt Go.RowKit Go.Lib Go.Shelf Go.Maps
/-- bounds of how many proxies have a version -/
def AckB (n : Int) (pl : PlD) : Prop := ∀ m ∈ pl.V, 0 ≤ m.acks ∧ m.acks ≤ n
theorem AckB.new (k : Int) (f : Int × Int → Int) : AckB 0 ⟨k, [], f⟩ := fun m hm => by cases hm
theorem AckB.pub {n : Int} {pl : PlD} (h : AckB n pl) (hn : 0 ≤ n) (b : Nat) : AckB n (pubP pl b) := fun m hm => by
 rcases List.mem_append.1 hm with h1 | h1
 ·exact h m h1
 ·obtain rfl := List.mem_singleton.1 h1
  exact ⟨Int.le_refl 0, hn⟩
theorem AckB.say {n : Int} {pl : PlD} (h : AckB n pl) (pr v x : Int) : AckB n (sayP pl pr v x) := h
theorem AckB.ack {n : Int} {pl : PlD} (h : AckB n pl) (_hn : 0 ≤ n) (pr v : Int) : AckB (n + 1) (ackP pl pr v) := fun m hm => by
 obtain ⟨i, hi, rfl⟩ := List.getElem_of_mem hm
 have hi' : i < pl.V.length := by simpa [ackP] using hi
 have h1 := h _ (List.getElem_mem hi')
 simp only [ackP, List.getElem_set]
 split
 ·rename_i e
  rw [List.getD_eq_getElem?_getD, e, List.getElem?_eq_getElem hi']
  show 0 ≤ pl.V[i].acks + 1 ∧ pl.V[i].acks + 1 ≤ n + 1
  omega
 ·omega
theorem AckB.big {n : Int} {pl : PlD} (h : AckB n pl) (hn : n ≤ 1000000) : ∀ m ∈ pl.V, 0 ≤ m.acks ∧ m.acks ≤ 1000000 := fun m hm => ⟨(h m hm).1, by have := (h m hm).2; omega⟩
def pl0 (k : Int) : PlD := ⟨k, [], fun _ => 0⟩
set_option maxRecDepth 100000 in
set_option maxHeartbeats 16000000 in
theorem lives17_any (w : World) (hm : MaxV w) : Calls Tryz.prog 15 #[] w fun e w' => e = .returned (.bool true) ∧ Ext w w' := by
 obtain ⟨cd, hcd1, hcd2⟩ := Tryz.confDesc
 have HM := hide hm
 clear hm
 go_enter Tryz.func15, Tryz.ntmps15
 go_wp2_with fail
 refine (pl_new 2 w (by decide)).mono ?_
 rintro e W0 ⟨p, bm, rfl, hp0, E0⟩
 have hp0 : Pl w.heap.size 0 W0 p bm (pl0 2) := hp0
 have HP := hide hp0
 have HE0 := hide E0
 clear hp0 E0
 go_wp2_with fail
 refine (conf_any [] (hide rfl) (.slice none 0 0) W0 (ints_nil _) (fun _ h => by cases h)).mono ?_
 rintro e W1 ⟨c, rfl, hc, ho, E1⟩
 have G := hide (good0 hc)
 clear hc
 have hbz := heap_alloc_new W1 (.cells #[.slice none 0 0, .slice none 0 0, .slice none 0 0, .slice none 0 0, .int .i64 0, .int .i64 0, .int .i64 0, .int .i64 0, .int .i64 0, .int .i64 0, .int .i64 0, .int .i64 0, .int .i64 0, .int .i64 0, .int .i64 0, .int .i64 0, .int .i64 0, .int .i64 0, .int .i64 0, .int .i64 0] 30)
 have hxz : Ext W1 (W1.alloc (.cells #[.slice none 0 0, .slice none 0 0, .slice none 0 0, .slice none 0 0, .int .i64 0, .int .i64 0, .int .i64 0, .int .i64 0, .int .i64 0, .int .i64 0, .int .i64 0, .int .i64 0, .int .i64 0, .int .i64 0, .int .i64 0, .int .i64 0, .int .i64 0, .int .i64 0, .int .i64 0, .int .i64 0] 30)) := (Below.refl _ _).alloc (Nat.le_refl _) _
 have hth : (W1.alloc (.cells #[.slice none 0 0, .slice none 0 0, .slice none 0 0, .slice none 0 0, .int .i64 0, .int .i64 0, .int .i64 0, .int .i64 0, .int .i64 0, .int .i64 0, .int .i64 0, .int .i64 0, .int .i64 0, .int .i64 0, .int .i64 0, .int .i64 0, .int .i64 0, .int .i64 0, .int .i64 0, .int .i64 0] 30)).there W1.heap.size 0 20 := fun q hq => by
  rw [Nat.zero_add]
  refine ⟨?_, by simp only [World.frozen?]; rw [hbz]; simp⟩
  simp only [World.cell?, hbz]
  simp [hq]
 go_upto_region 3 with (refine wpList_store_mid rfl 30 (.tmp 2) (.tmp 10) rfl W1.heap.size 0 (encC c).toArray rfl rfl hth Tryz.confSize (all_oneCell_toArray (encC_one' ho)) ?_)
 generalize W1.alloc (.cells #[.slice none 0 0, .slice none 0 0, .slice none 0 0, .slice none 0 0, .int .i64 0, .int .i64 0, .int .i64 0, .int .i64 0, .int .i64 0, .int .i64 0, .int .i64 0, .int .i64 0, .int .i64 0, .int .i64 0, .int .i64 0, .int .i64 0, .int .i64 0, .int .i64 0, .int .i64 0, .int .i64 0] 30) = Wz at hbz hxz hth ⊢
 obtain ⟨b2, hbe⟩ : ∃ b, W1.heap.size = b := ⟨_, rfl⟩
 rw [hbe] at hbz hth ⊢
 have hbb2 : w.heap.size ≤ b2 := by have := (HE0.out.trans E1).size; omega
 have hrs := World.rangeAt_setCells_same Wz b2 0 (encC c) hth
 obtain ⟨cs, hcs1, hcs2⟩ := setCells_block b2 30 (0, 0) (encC c) 0 Wz _ hbz
 have hk5 := keeps_setCells b2 (encC c) 0 Wz
 show Code.wp _ _ _ _ (Wz.setCells b2 0 (encC c))
 generalize Wz.setCells b2 0 (encC c) = W2 at hrs hk5 hcs1 ⊢
 have HB := hide (show BoxC W2 b2 c from BoxC.of_range hcs1 (by rw [hcs2]; rfl) hrs)
 have HX := hide (Keeps.ext ((HE0.out.trans E1).trans hxz) hk5 (fun g hg => by omega))
 have HO := hide (((ho).ext hxz).keepT hk5 (OfT.one hbz) (by decide) (by decide) (by decide) (by decide) (by decide) (by decide) (by decide))
 have hGb2 : W1.heap.size ≤ b2 := by omega
 have hEb2 : Ext W1 W2 := ((Keeps.of_ext hxz).trans hk5 : Keeps (fun g => g = b2) W1 W2).below (Nat.le_refl _) (fun g hg => by omega)
 clear hrs hk5 hcs1 hcs2 hbz hxz hth
 have HP2 := hide (HP.out.ext (E1.trans hEb2))
 have hB' : W0.heap.size ≤ W2.heap.size := by have := E1.size; have := hEb2.size; omega
 have HBB := hide hB'
 clear HP ho E1 hEb2 hGb2 hB'
 go_upto_region 5 with (fail)
 refine wp_region_lit ?_
 refine wpList_plain rfl fun K hK => ?_
 go_simp
 refine hK _ _ ?_
 refine wpList_load_mid rfl 30 (.tmp 2) rfl b2 0 rfl (encC c) cd (HB.out.range) hcd1 hcd2 Tryz.confSize ?_
 simp only [Act.put]
 go_wp2_with fail
 refine (pl_publish HP2.out W0.heap.size c HO.out (HBB.out) G.out.1 (Nat.le_trans G.out.2.2 (by decide)) G.out.2.1 (HM.out.ext HX.out) (by show 1 - 1 < 50; decide) HX.out.size).mono ?_
 rintro e W3 ⟨rfl, ⟨s1, hp⟩, hk⟩
 rw [show ((pl0 2).V.length : Int) + 1 = 1 from rfl]
 have HBW3 := hide (hk.boxC HB.out)
 have HOW3 := hide (hk.conf HO.out)
 have HXW3 := hide (hk.ext HX.out (Nat.le_refl _))
 have HPW3 := hide hp
 have hszW3 := hk.size
 clear hp hk HP2 HB HO HX
 go_upto_region 6 with (fail)
 refine wp_region_lit ?_
 refine wpList_plain rfl fun K hK => ?_
 go_simp
 refine hK _ _ ?_
 refine wpList_load_mid rfl 30 (.tmp 2) rfl b2 0 rfl (encC c) cd (HBW3.out.range) hcd1 hcd2 Tryz.confSize ?_
 simp only [Act.put]
 go_wp2_with fail
 refine (pl_publish HPW3.out W0.heap.size c HOW3.out (Nat.le_trans HBB.out hszW3) G.out.1 (Nat.le_trans G.out.2.2 (by decide)) G.out.2.1 (HM.out.ext HXW3.out) (by show 2 - 1 < 50; decide) HXW3.out.size).mono ?_
 rintro e W4 ⟨rfl, ⟨s2, hp⟩, hk⟩
 rw [show ((pubP (pl0 2) s1).V.length : Int) + 1 = 2 from rfl]
 have HBW4 := hide (hk.boxC HBW3.out)
 have HOW4 := hide (hk.conf HOW3.out)
 have HXW4 := hide (hk.ext HXW3.out (Nat.le_refl _))
 have HPW4 := hide hp
 have hszW4 := hk.size
 clear hp hk HPW3 HBW3 HOW3 HXW3
 obtain ⟨P2, hP2⟩ : ∃ P, pubP (pubP (pl0 2) s1) s2 = P := ⟨_, rfl⟩
 have HK2 := hide (show AckB 0 (pubP (pubP (pl0 2) s1) s2) from (((AckB.new 2 _).pub (by decide) _).pub (by decide) _))
 clear HBW4 HOW4 hP2
 clear P2
 go_wp2_with fail
 refine (pl_ack HPW4.out 0 2 (by constructor <;> constructor <;> decide) (by decide) (HK2.out.big (by decide))).mono ?_
 rintro e W5 ⟨rfl, hp, hk⟩
 rw [show sayE (pubP (pubP (pl0 2) s1) s2) 0 2 = 0 from rfl] at hp ⊢
 rw [if_pos rfl] at hp
 have HPW5 := hide hp
 have HXW5 := hide (hk.ext HXW4.out (Nat.le_refl _))
 have HKW5 := hide (HK2.out.ack (by decide) 0 2)
 clear hp hk HPW4 HXW4 HK2
 go_wp2_with fail
 refine (pl_ack HPW5.out 1 1 (by constructor <;> constructor <;> decide) (by decide) (HKW5.out.big (by decide))).mono ?_
 rintro e W6 ⟨rfl, hp, hk⟩
 rw [show sayE (ackP (pubP (pubP (pl0 2) s1) s2) 0 2) 1 1 = 0 from rfl] at hp ⊢
 rw [if_pos rfl] at hp
 have HPW6 := hide hp
 have HXW6 := hide (hk.ext HXW5.out (Nat.le_refl _))
 have HKW6 := hide (HKW5.out.ack (by decide) 1 1)
 clear hp hk HPW5 HXW5 HKW5
 go_wp2_with fail
 refine (pl_ack HPW6.out 0 1 (by constructor <;> constructor <;> decide) (by decide) (HKW6.out.big (by decide))).mono ?_
 rintro e W7 ⟨rfl, hp, hk⟩
 rw [show sayE (ackP (ackP (pubP (pubP (pl0 2) s1) s2) 0 2) 1 1) 0 1 = 0 from rfl] at hp ⊢
 rw [if_pos rfl] at hp
 have HPW7 := hide hp
 have HXW7 := hide (hk.ext HXW6.out (Nat.le_refl _))
 have HKW7 := hide (HKW6.out.ack (by decide) 0 1)
 clear hp hk HPW6 HXW6 HKW6
 go_wp2_with fail
 refine (pl_live HPW7.out).mono ?_
 rintro e W8 ⟨rfl, E8⟩
 rw [show ((liveN (ackP (ackP (ackP (pubP (pubP (pl0 2) s1) s2) 0 2) 1 1) 0 1) : Nat) : Int) = 1 from rfl]
 have HP8 := hide (HPW7.out.ext E8)
 have HX8 := hide (HXW7.out.trans E8)
 clear E8 HPW7 HXW7
 go_wp2_with fail
 refine (pl_next HP8.out 1 (by constructor <;> decide)).mono ?_
 rintro e W9 ⟨rfl, E9⟩
 rw [show nextS (ackP (ackP (ackP (pubP (pubP (pl0 2) s1) s2) 0 2) 1 1) 0 1) 1 = some s2 from rfl]
 have HP9 := hide (HP8.out.ext E9)
 have HX9 := hide (HX8.out.trans E9)
 have hv : W9.cell? ⟨s2, 0, none⟩ = some (.int .i64 2) := HP9.out.ver 1 (by show 1 < 2; decide) s2 rfl
 clear E9 HP8 HX8
 simp only [ptrO, Option.map_some, Option.isSome_some]
 go_wp2_with fail
 refine (pl_nack HP9.out 1 2 (by constructor <;> constructor <;> decide) (by decide)).mono ?_
 rintro e W10 ⟨rfl, hp, hk⟩
 rw [show sayE (ackP (ackP (ackP (pubP (pubP (pl0 2) s1) s2) 0 2) 1 1) 0 1) 1 2 = 0 from rfl] at hp ⊢
 rw [if_pos rfl] at hp
 have HP10 := hide hp
 have HX10 := hide (hk.ext HX9.out (Nat.le_refl _))
 clear hp hk HP9 HX9 hv
 go_wp2_with fail
 refine (pl_live HP10.out).mono ?_
 rintro e W11 ⟨rfl, E11⟩
 rw [show ((liveN (sayP (ackP (ackP (ackP (pubP (pubP (pl0 2) s1) s2) 0 2) 1 1) 0 1) 1 2 2) : Nat) : Int) = 1 from rfl]
 have HX11 := hide (HX10.out.trans E11)
 clear E11 HP10 HX10
 go_wp2
 go_ret
 exact ⟨rfl, HX11.out⟩
end Go.Proofs.YtkhebanpplokdaaGreatDoor
