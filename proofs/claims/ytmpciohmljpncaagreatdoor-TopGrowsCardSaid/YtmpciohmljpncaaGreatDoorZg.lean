import Derived.Test.YtmpciohmljpncaaGreatDoorZw

/- ref08.Rule (printed by wip/gen_rule2.py). -/
namespace Go.Proofs.YtmpciohmljpncaaGreatDoor
open Go.ChangeShapes Go.WideShapes Go.ChangeAt Go.RowKit Go.Lib Go.Shelf
set_option maxRecDepth 100000 in
set_option maxHeartbeats 32000000 in
theorem rule_any (L : List Int) (v : Value) (w : World) (hs : Ints w v L) (hL : ∀ x ∈ L, I64 x) :
  Calls Tryz.prog 27 #[v] w (RuleP L w) := by
 obtain ⟨hl, a, c, rfl⟩ := hs.shape
 obtain ⟨ii, hii0, hii1, hii2, hii3⟩ := info_partsS Tryz.infoI
 have HS := hide hs
 have HLB := hide hL
 clear hs hL
 go_enter Tryz.func27, Tryz.ntmps27
 go_wp2_with fail
 have hw0 : Ext w (w.alloc (.cells #[.string ⟨#[]⟩, .bool false, .slice none 0 0, .slice none 0 0, .int .i64 0, .int .i64 0, .int .i64 0, .int .i64 0, .string ⟨#[]⟩, .slice none 0 0, .slice none 0 0, .int .i64 0, .int .i64 0, .int .i64 0, .int .i64 0, .int .i64 0, .int .i64 0, .int .i64 0, .int .i64 0] 57)) := (Below.refl _ w).alloc (Nat.le_refl _) _
 have hb0 := heap_alloc_new w (.cells #[.string ⟨#[]⟩, .bool false, .slice none 0 0, .slice none 0 0, .int .i64 0, .int .i64 0, .int .i64 0, .int .i64 0, .string ⟨#[]⟩, .slice none 0 0, .slice none 0 0, .int .i64 0, .int .i64 0, .int .i64 0, .int .i64 0, .int .i64 0, .int .i64 0, .int .i64 0, .int .i64 0] 57)
 generalize w.alloc (.cells #[.string ⟨#[]⟩, .bool false, .slice none 0 0, .slice none 0 0, .int .i64 0, .int .i64 0, .int .i64 0, .int .i64 0, .string ⟨#[]⟩, .slice none 0 0, .slice none 0 0, .int .i64 0, .int .i64 0, .int .i64 0, .int .i64 0, .int .i64 0, .int .i64 0, .int .i64 0, .int .i64 0] 57) = W0 at *
 have HW0 := hide hw0
 have HB0 := hide hb0
 clear hw0 hb0
 go_loopw [3, 4] (fun v3 v4 wr => ∃ i : Nat, i ≤ 8 ∧ v4 = .int .i64 i ∧ wr.ownsRow w.heap.size 3 1 v3 i ((KL L i).flatMap encI) ∧ Ext w wr ∧ wr.heap[w.heap.size]? = some (.cells #[.string ⟨#[]⟩, .bool false, .slice none 0 0, .slice none 0 0, .int .i64 0, .int .i64 0, .int .i64 0, .int .i64 0, .string ⟨#[]⟩, .slice none 0 0, .slice none 0 0, .int .i64 0, .int .i64 0, .int .i64 0, .int .i64 0, .int .i64 0, .int .i64 0, .int .i64 0, .int .i64 0] 57 (0, 0))) (fun _ i _ => 8 - (intOf i).toNat)
 case atStart => exact ⟨0, by omega, rfl, World.ownsRow_nil _ _ _ _, HW0.out, HB0.out⟩
 case round =>
  obtain ⟨i, hi8, rfl, hown, hext, hbx⟩ := hrel
  obtain ⟨xa, xc, rfl⟩ := owns_shape hown
  have HOW := hide hown
  have HEX := hide hext
  have HBX := hide hbx
  clear hown hext hbx HB0 HW0
  by_cases hlt : i < 8
  ·have hltz : (i : Int) < 8 := by omega
   have hz : ∃ z : Int, z = (kN L i : Int) := ⟨_, rfl⟩
   obtain ⟨z, hz⟩ := hz
   have hzb := kN_bd L i
   have HZ := hide hz
   by_cases hil : i < L.length
   ·obtain ⟨b, off, rfl, hbb, hc⟩ := ints_at HS.out i hil
    have hc' := (HEX.out.cell (p := ⟨b, off + i, none⟩) hbb).trans hc
    have hcall := around_any L[i] 1000000 wr (HLB.out _ (List.getElem_mem hil)) (by omega)
    have hza : around L[i] 1000000 = z := by
     have hb := around_bd L[i] 1000000 (by omega)
     have e : kN L i = arN L[i] 1000000 := by unfold kN; rw [dif_pos hil]
     rw [hz, e]
     unfold arN
     omega
    rw [hza] at hcall
    generalize L[i] = li at *
    have HC := hide hcall
    clear hcall hza hc hz hzb
    go_wp2_with fail
    refine HC.out.mono ?_
    rintro e w5 ⟨rfl, rfl⟩
    go_upto_region 8 with (fail)
    refine wp_region_lit ?_
    refine wpList_plain rfl fun K hK => ?_
    go_simp
    refine hK _ _ ?_
    refine wpList_plain rfl fun K hK => ?_
    go_simp
    refine hK _ _ ?_
    refine wpList_plain rfl fun K hK => ?_
    go_simp
    refine hK _ _ ?_
    have hxa : Ext wr (wr.alloc (.cells #[.int .i64 z] 3)) := (Below.refl _ _).alloc (Nat.le_refl _) _
    refine wpList_append_sl (enc := encI) rfl _ _ _ rfl w.heap.size 3 ii (.int .i64 0) 1 8 Tryz.underlying22 hii0 hii1 hii2 hii3 rfl (by decide) (fun _ => rfl) (.slice xa i xc) i ((KL L i).flatMap encI) rfl (owns_ext HOW.out hxa) _ rfl [z] (ints_new1 wr z _) (fun x _ => encI_one x) (by unfold maxLen; simp; omega) (by simp; omega) (Ext.trans HEX.out hxa).size ?_
    intro v7 w7 hown7 hg7
    have hk7 : Keeps (fun q => (Value.slice xa i xc).ownBlock = some q) wr w7 := (Keeps.of_ext hxa).trans (Keeps.of_grown hg7 (fun q h => h))
    have hb7 := (hk7.block _ (Array.getElem?_eq_some_iff.1 HBX.out).1 (fun e => absurd (owns_type HOW.out e HBX.out) (by decide))).trans HBX.out
    have hE7 : Ext w w7 := Keeps.ext HEX.out hk7 (fun q hq => (HOW.out.lt q hq).1)
    have hown8 : w7.ownsRow w.heap.size 3 1 v7 (i + 1) ((KL L (i + 1)).flatMap encI) := by
     rw [KL_succ, List.flatMap_append, ← HZ.out]
     exact hown7
    obtain ⟨x7, y7, hv7⟩ := owns_shape hown8
    subst hv7
    have HB7 := hide hb7
    have HE7 := hide hE7
    have HO8 := hide hown8
    clear hb7 hE7 hown8 hown7 hg7 hk7 hxa
    refine wpList_plain rfl fun K hK => ?_
    go_simp
    refine hK _ _ ?_
    refine wpList_nil ?_
    go_wp2
    go_roundw
    case rel => exact ⟨i + 1, by omega, by go_num, HO8.out, HE7.out, HB7.out⟩
    case measure => simp [intOf] <;> omega
   ·have hz0 : z = 0 := by rw [hz]; simp [kN, hil]
    subst hz0
    clear hz hzb
    go_upto_region 8 with (fail)
    refine wp_region_lit ?_
    refine wpList_plain rfl fun K hK => ?_
    go_simp
    refine hK _ _ ?_
    refine wpList_plain rfl fun K hK => ?_
    go_simp
    refine hK _ _ ?_
    refine wpList_plain rfl fun K hK => ?_
    go_simp
    refine hK _ _ ?_
    have hxa : Ext wr (wr.alloc (.cells #[.int .i64 0] 3)) := (Below.refl _ _).alloc (Nat.le_refl _) _
    refine wpList_append_sl (enc := encI) rfl _ _ _ rfl w.heap.size 3 ii (.int .i64 0) 1 8 Tryz.underlying22 hii0 hii1 hii2 hii3 rfl (by decide) (fun _ => rfl) (.slice xa i xc) i ((KL L i).flatMap encI) rfl (owns_ext HOW.out hxa) _ rfl [0] (ints_new1 wr 0 _) (fun x _ => encI_one x) (by unfold maxLen; simp; omega) (by simp; omega) (Ext.trans HEX.out hxa).size ?_
    intro v7 w7 hown7 hg7
    have hk7 : Keeps (fun q => (Value.slice xa i xc).ownBlock = some q) wr w7 := (Keeps.of_ext hxa).trans (Keeps.of_grown hg7 (fun q h => h))
    have hb7 := (hk7.block _ (Array.getElem?_eq_some_iff.1 HBX.out).1 (fun e => absurd (owns_type HOW.out e HBX.out) (by decide))).trans HBX.out
    have hE7 : Ext w w7 := Keeps.ext HEX.out hk7 (fun q hq => (HOW.out.lt q hq).1)
    have hown8 : w7.ownsRow w.heap.size 3 1 v7 (i + 1) ((KL L (i + 1)).flatMap encI) := by
     rw [KL_succ, List.flatMap_append, ← HZ.out]
     exact hown7
    obtain ⟨x7, y7, hv7⟩ := owns_shape hown8
    subst hv7
    have HB7 := hide hb7
    have HE7 := hide hE7
    have HO8 := hide hown8
    clear hb7 hE7 hown8 hown7 hg7 hk7 hxa
    refine wpList_plain rfl fun K hK => ?_
    go_simp
    refine hK _ _ ?_
    refine wpList_nil ?_
    go_wp2
    go_roundw
    case rel => exact ⟨i + 1, by omega, by go_num, HO8.out, HE7.out, HB7.out⟩
    case measure => simp [intOf] <;> omega
  ·obtain rfl : i = 8 := by omega
   obtain ⟨g3, c3, hv3, -⟩ := owns_form HOW.out (by omega)
   cases hv3
   have hcap := (owns_cap HOW.out).2
   have h3c : (3 : Int) ≤ xc := by omega
   have hkk : Ints wr (.slice (some ⟨g3, 0, none⟩) 8 xc) (KL L 8) := by
    have h := HOW.out
    have e : (8 : Nat) = (KL L 8).length := (KL_len L 8).symm
    have h' : wr.ownsRow w.heap.size 3 1 (.slice (some ⟨g3, 0, none⟩) 8 xc) (KL L 8).length ((KL L 8).flatMap encI) := by rw [KL_len]; exact h
    exact Sl.of_own' (enc := encI) (fun _ => rfl) h'
   have hk3 : Ints wr (.slice (some ⟨g3, 0, none⟩) 3 xc) [(kN L 0 : Int), (kN L 1 : Int), (kN L 2 : Int)] := hkk.take 3 (by omega)
   have hm := match3_any (kN L 0) (kN L 1) (kN L 2) _ wr hk3 (kN_bd L 0) (kN_bd L 1) (kN_bd L 2)
   have HMT := hide hm
   clear hm hk3 hkk hcap
   go_upto_region 9 with (fail)
   refine wp_region_lit ?_
   refine wpList_plain rfl fun K hK => ?_
   go_simp
   refine hK _ _ ?_
   refine wpList_plain rfl fun K hK => ?_
   go_simp
   refine hK _ _ ?_
   refine wpList_plain rfl fun K hK => ?_
   go_simp
   refine HMT.out.mono ?_
   rintro e w5 ⟨s, hv, rfl, hs5, hownH, E5⟩
   refine hK _ _ ?_
   obtain ⟨xh, yh, hvh⟩ := owns_shape hownH
   subst hvh
   refine wpList_plain rfl fun K hK => ?_
   go_simp
   refine hK _ _ ?_
   refine wpList_plain rfl fun K hK => ?_
   go_simp
   refine hK _ _ ?_
   have hb6 := heap_alloc_new w5 (.cells #[.string ⟨#[]⟩, .bool false, .slice none 0 0, .slice none 0 0, .int .i64 0, .int .i64 0, .int .i64 0, .int .i64 0, .string ⟨#[]⟩, .slice none 0 0, .slice none 0 0, .int .i64 0, .int .i64 0, .int .i64 0, .int .i64 0, .int .i64 0, .int .i64 0, .int .i64 0, .int .i64 0] 57)
   have hth : (w5.alloc (.cells #[.string ⟨#[]⟩, .bool false, .slice none 0 0, .slice none 0 0, .int .i64 0, .int .i64 0, .int .i64 0, .int .i64 0, .string ⟨#[]⟩, .slice none 0 0, .slice none 0 0, .int .i64 0, .int .i64 0, .int .i64 0, .int .i64 0, .int .i64 0, .int .i64 0, .int .i64 0, .int .i64 0] 57)).there w5.heap.size 0 19 := fun j hj => by
    rw [Nat.zero_add]
    refine ⟨?_, by simp only [World.frozen?, hb6]; simp⟩
    simp only [World.cell?, hb6]
    simp [hj]
   refine wpList_store_mid rfl 57 (.tmp 6) (.tmp 27) rfl w5.heap.size 0 (#[.string s, .bool (kN L 0 % 3 == 1), .slice xh (matchH (kN L 1) (kN L 2)).length yh, .slice none 0 0, .int .i64 0, .int .i64 0, .int .i64 0, .int .i64 0, .string ⟨#[]⟩, .slice none 0 0, .slice none 0 0, .int .i64 0, .int .i64 0, .int .i64 0, .int .i64 0, .int .i64 0, .int .i64 0, .int .i64 0, .int .i64 0]) rfl rfl hth Tryz.ruleSize (by simp [Value.oneCell']) ?_
   have hrs := World.rangeAt_setCells_same (w5.alloc (.cells #[.string ⟨#[]⟩, .bool false, .slice none 0 0, .slice none 0 0, .int .i64 0, .int .i64 0, .int .i64 0, .int .i64 0, .string ⟨#[]⟩, .slice none 0 0, .slice none 0 0, .int .i64 0, .int .i64 0, .int .i64 0, .int .i64 0, .int .i64 0, .int .i64 0, .int .i64 0, .int .i64 0] 57)) w5.heap.size 0 [.string s, .bool (kN L 0 % 3 == 1), .slice xh (matchH (kN L 1) (kN L 2)).length yh, .slice none 0 0, .int .i64 0, .int .i64 0, .int .i64 0, .int .i64 0, .string ⟨#[]⟩, .slice none 0 0, .slice none 0 0, .int .i64 0, .int .i64 0, .int .i64 0, .int .i64 0, .int .i64 0, .int .i64 0, .int .i64 0, .int .i64 0] hth
   obtain ⟨cs6, h6a, h6b⟩ := setCells_block w5.heap.size 57 (0, 0) [.string s, .bool (kN L 0 % 3 == 1), .slice xh (matchH (kN L 1) (kN L 2)).length yh, .slice none 0 0, .int .i64 0, .int .i64 0, .int .i64 0, .int .i64 0, .string ⟨#[]⟩, .slice none 0 0, .slice none 0 0, .int .i64 0, .int .i64 0, .int .i64 0, .int .i64 0, .int .i64 0, .int .i64 0, .int .i64 0, .int .i64 0] 0 _ _ hb6
   have hxe : Ext w5 ((w5.alloc (.cells #[.string ⟨#[]⟩, .bool false, .slice none 0 0, .slice none 0 0, .int .i64 0, .int .i64 0, .int .i64 0, .int .i64 0, .string ⟨#[]⟩, .slice none 0 0, .slice none 0 0, .int .i64 0, .int .i64 0, .int .i64 0, .int .i64 0, .int .i64 0, .int .i64 0, .int .i64 0, .int .i64 0] 57)).setCells w5.heap.size 0 [.string s, .bool (kN L 0 % 3 == 1), .slice xh (matchH (kN L 1) (kN L 2)).length yh, .slice none 0 0, .int .i64 0, .int .i64 0, .int .i64 0, .int .i64 0, .string ⟨#[]⟩, .slice none 0 0, .slice none 0 0, .int .i64 0, .int .i64 0, .int .i64 0, .int .i64 0, .int .i64 0, .int .i64 0, .int .i64 0, .int .i64 0]) := Keeps.ext ((Below.refl _ w5).alloc (Nat.le_refl _) _) (keeps_setCells w5.heap.size [.string s, .bool (kN L 0 % 3 == 1), .slice xh (matchH (kN L 1) (kN L 2)).length yh, .slice none 0 0, .int .i64 0, .int .i64 0, .int .i64 0, .int .i64 0, .string ⟨#[]⟩, .slice none 0 0, .slice none 0 0, .int .i64 0, .int .i64 0, .int .i64 0, .int .i64 0, .int .i64 0, .int .i64 0, .int .i64 0, .int .i64 0] 0 _) (fun g hg => by omega)
   refine wpList_nil ?_
   show Exit.then _ _ _ _ ((w5.alloc (.cells #[.string ⟨#[]⟩, .bool false, .slice none 0 0, .slice none 0 0, .int .i64 0, .int .i64 0, .int .i64 0, .int .i64 0, .string ⟨#[]⟩, .slice none 0 0, .slice none 0 0, .int .i64 0, .int .i64 0, .int .i64 0, .int .i64 0, .int .i64 0, .int .i64 0, .int .i64 0, .int .i64 0] 57)).setCells w5.heap.size 0 [.string s, .bool (kN L 0 % 3 == 1), .slice xh (matchH (kN L 1) (kN L 2)).length yh, .slice none 0 0, .int .i64 0, .int .i64 0, .int .i64 0, .int .i64 0, .string ⟨#[]⟩, .slice none 0 0, .slice none 0 0, .int .i64 0, .int .i64 0, .int .i64 0, .int .i64 0, .int .i64 0, .int .i64 0, .int .i64 0, .int .i64 0])
   simp only [Act.put]
   generalize (w5.alloc (.cells #[.string ⟨#[]⟩, .bool false, .slice none 0 0, .slice none 0 0, .int .i64 0, .int .i64 0, .int .i64 0, .int .i64 0, .string ⟨#[]⟩, .slice none 0 0, .slice none 0 0, .int .i64 0, .int .i64 0, .int .i64 0, .int .i64 0, .int .i64 0, .int .i64 0, .int .i64 0, .int .i64 0] 57)).setCells w5.heap.size 0 [.string s, .bool (kN L 0 % 3 == 1), .slice xh (matchH (kN L 1) (kN L 2)).length yh, .slice none 0 0, .int .i64 0, .int .i64 0, .int .i64 0, .int .i64 0, .string ⟨#[]⟩, .slice none 0 0, .slice none 0 0, .int .i64 0, .int .i64 0, .int .i64 0, .int .i64 0, .int .i64 0, .int .i64 0, .int .i64 0, .int .i64 0] = W6 at *
   have hsz5 : wr.heap.size ≤ w5.heap.size := E5.size
   have hRS : ∃ r, r.core = core0 s L ∧ RS w W6 w.heap.size w5.heap.size (.slice (some ⟨g3, 0, none⟩) 8 xc) (KL L 8) r := by
    refine ⟨⟨s, kN L 0 % 3 == 1, .slice xh (matchH (kN L 1) (kN L 2)).length yh, matchH (kN L 1) (kN L 2), .slice none 0 0, [], 0, 0, 0, 0, ⟨#[]⟩, .slice none 0 0, [], .slice none 0 0, [], 0, 0, 0, 0, 0, 0, 0, 0⟩, rfl, ?_⟩
    have hm2 : W6.ownsRow w.heap.size 169 2 (.slice xh (matchH (kN L 1) (kN L 2)).length yh) (matchH (kN L 1) (kN L 2)).length ((matchH (kN L 1) (kN L 2)).flatMap encH) := owns_le (owns_ext hownH hxe) HEX.out.size
    refine ⟨Ext.trans HEX.out (Ext.trans E5 hxe), BoxR.of_range h6a (by rw [h6b]; rfl) hrs, ⟨hm2, World.ownsRow_nil _ _ _ _, World.ownsRow_nil _ _ _ _, World.ownsRow_nil _ _ _ _⟩, ⟨_, ((Ext.trans E5 hxe).block _ (Array.getElem?_eq_some_iff.1 HBX.out).1).trans HBX.out, rfl⟩, owns_ext HOW.out (Ext.trans E5 hxe), Nat.le_trans HEX.out.size hsz5, Nat.le_refl _, ?_⟩
    have := (Array.getElem?_eq_some_iff.1 HBX.out).1
    omega
   have HS5 := hide hs5
   clear hrs h6a h6b hxe hth hb6 hownH E5 hsz5 HMT hs5
   generalize w5.heap.size = b6 at *
   obtain ⟨r, hrc, hRSr⟩ := hRS
   have HRC := hide hrc
   have HRS := hide hRSr
   clear hrc hRSr
   (try simp only [Exit.then])
   apply_assumption
   exact of_frame183 _ rfl (rule_tail4 L s w _ b6 g3 xc a c u5 _ rfl rfl rfl rfl rfl rfl rfl r HRC.out HRS.out HS5.out)

end Go.Proofs.YtmpciohmljpncaaGreatDoor

/- ref08.Rules: up to five rules made of numbers. -/
namespace Go.Proofs.YtmpciohmljpncaaGreatDoor
open Go.ChangeShapes Go.WideShapes Go.ChangeAt Go.RowKit Go.Lib Go.Shelf
/-- how many rules come of so many numbers -/
def rulesN (L : List Int) : Nat := min 5 ((L.length + 7) / 8)
def genRs (L : List Int) (k : Nat) : List RuleD := (List.range k).map fun i => genR (L.drop (8 * i))
theorem genRs_succ (L : List Int) (k : Nat) : genRs L (k + 1) = genRs L k ++ [genR (L.drop (8 * k))] := by simp [genRs, List.range_succ]
theorem genRs_len (L : List Int) (k : Nat) : (genRs L k).length = k := by simp [genRs]
theorem SlI_drop {w : World} {a : Option Addr} {n cap : Nat} {xs : List Int} (h : Ints w (.slice a n cap) xs) (k : Nat) (hk : k < n) : ∃ b off, a = some ⟨b, off, none⟩ ∧ Ints w (.slice (some ⟨b, off + k, none⟩) (n - k) (cap - k)) (xs.drop k) := by
 have hc := h.cap
 obtain ⟨b, off, rfl, -⟩ := h.some (by omega)
 refine ⟨b, off, rfl, ?_⟩
 have := h.drop k (by omega)
 rw [Nat.mul_one] at this
 exact this
set_option maxRecDepth 100000 in
set_option maxHeartbeats 8000000 in
theorem rules_any (L : List Int) (v : Value) (w : World) (hs : Ints w v L) (hL : ∀ x ∈ L, I64 x) :
  Calls Tryz.prog 10 #[v] w fun e w' => ∃ (v' : Value) (Rs : List RuleD), e = .returned v' ∧ Rs.map RuleD.core = genRs L (rulesN L) ∧ w'.ownsRow w.heap.size 57 19 v' Rs.length (Rs.flatMap encR) ∧ (∀ r ∈ Rs, RuleOwn w.heap.size w' r) ∧ Ext w w' := by
 obtain ⟨hl, a, c, rfl⟩ := hs.shape
 obtain ⟨ir, zr, hir0, hir1, hir2, hir3, hir4⟩ := info_partsR
 have HS := hide hs
 have HLB := hide hL
 clear hs hL
 go_enter Tryz.func10, Tryz.ntmps10
 go_wp2_with fail
 go_loopw [3, 4] (fun v3 v4 wr => ∃ (i : Nat) (Rs : List RuleD), v4 = .int .i64 i ∧ i ≤ 5 ∧ (∀ j, j < i → 8 * j < L.length) ∧ wr.ownsRow w.heap.size 57 19 v3 Rs.length (Rs.flatMap encR) ∧ Rs.map RuleD.core = genRs L i ∧ (∀ r ∈ Rs, RuleOwn w.heap.size wr r) ∧ Ext w wr) (fun _ i _ => 5 - (intOf i).toNat)
 case atStart => exact ⟨0, [], rfl, by omega, fun j hj => by omega, World.ownsRow_nil _ _ _ _, rfl, fun r hr => (by cases hr), Below.refl _ _⟩
 case round =>
  obtain ⟨i, Rs, rfl, hi5, hj8, hown, hcore, hros, hext⟩ := hrel
  obtain ⟨xa, xc, rfl⟩ := owns_shape hown
  have HOW := hide hown
  have HCO := hide hcore
  have HRO := hide hros
  have HEX := hide hext
  have HJ := hide hj8
  have HRL := hide (show Rs.length = i by have := congrArg List.length hcore; simpa [genRs] using this)
  clear hown hcore hros hext hj8
  by_cases hlt : i < 5 ∧ 8 * i < L.length
  ·obtain ⟨h5, h8⟩ := hlt
   have hltz : (i : Int) < 5 := by omega
   have h8z : 8 * (i : Int) < L.length := by omega
   have h8w : IntKind.i64.wrap (8 * (i : Int)) = 8 * (i : Int) := IntWalk.i64_in _ (by omega)
   obtain ⟨b, off, rfl, hsl⟩ := SlI_drop HS.out (8 * i) h8
   have hcall := rule_any (L.drop (8 * i)) _ wr (hsl.ext HEX.out) (fun x hx => HLB.out x (List.mem_of_mem_drop hx))
   have HCALL := hide hcall
   have hcap := (HS.out.cap).2.1
   clear hcall hsl
   go_upto_region 5 with (fail)
   have h8c : 0 ≤ 8 * (i : Int) := by omega
   have h8d : 8 * (i : Int) ≤ L.length := by omega
   have h8t : (8 * (i : Int)).toNat = 8 * i := by omega
   have h8n : ¬ c = 8 * i := by omega
   refine wp_region_lit ?_
   refine wpList_plain rfl fun K hK => ?_
   go_simp
   refine hK _ _ ?_
   refine wpList_plain rfl fun K hK => ?_
   go_simp
   refine hK _ _ ?_
   refine wpList_plain rfl fun K hK => ?_
   go_simp
   refine hK _ _ ?_
   refine wpList_plain rfl fun K hK => ?_
   go_simp
   refine hK _ _ ?_
   refine wpList_plain rfl fun K hK => ?_
   go_simp
   refine hK _ _ ?_
   refine wpList_plain rfl fun K hK => ?_
   go_simp
   refine HCALL.out.mono ?_
   rintro e w5 ⟨r, rfl, hrc, hor, E5⟩
   refine hK _ _ ?_
   have hor2 := hor
   obtain ⟨path, ex, hv, H, pv, P, mi, ab, de, ti, pre, sv, S, dv, D, q0, q1, q2, q3, q4, q5, q6, rate⟩ := r
   obtain ⟨a1, c1, s1⟩ := owns_shape hor.1
   obtain ⟨a2, c2, s2⟩ := owns_shape hor.2.1
   obtain ⟨a3, c3, s3⟩ := owns_shape hor.2.2.1
   obtain ⟨a4, c4, s4⟩ := owns_shape hor.2.2.2
   simp only at s1 s2 s3 s4
   subst s1 s2 s3 s4
   simp only [RuleD.val]
   clear hor
   refine wpList_plain rfl fun K hK => ?_
   go_simp
   refine hK _ _ ?_
   have hrl := rules_new1 w5 (⟨path, ex, .slice a1 H.length c1, H, .slice a2 P.length c2, P, mi, ab, de, ti, pre, .slice a3 S.length c3, S, .slice a4 D.length c4, D, q0, q1, q2, q3, q4, q5, q6, rate⟩ : RuleD) 57
   generalize hrr : (⟨path, ex, .slice a1 H.length c1, H, .slice a2 P.length c2, P, mi, ab, de, ti, pre, .slice a3 S.length c3, S, .slice a4 D.length c4, D, q0, q1, q2, q3, q4, q5, q6, rate⟩ : RuleD) = r at hrl hor2 hrc
   have hxa := (Below.refl w5.heap.size w5).alloc (Nat.le_refl _) (.cells (encR r).toArray 57)
   have hEx : Ext w (w5.alloc (.cells (encR r).toArray 57)) := Ext.trans HEX.out (Ext.trans E5 hxa)
   refine wpList_append_sl (enc := encR) rfl _ _ _ rfl w.heap.size 57 ir zr 19 232 Tryz.underlying25 hir0 hir1 hir2 hir3 hir4 (by decide) encR_len (.slice xa Rs.length xc) Rs.length (Rs.flatMap encR) rfl (by subst hrr; exact owns_ext HOW.out (Ext.trans E5 hxa)) _ rfl [r] (by subst hrr; exact hrl) (fun x hx => by rw [List.mem_singleton.1 hx]; exact encR_one r hor2) (by unfold maxLen; have := HRL.out; simp; omega) (by have := HRL.out; simp; omega) (by subst hrr; exact hEx.size) ?_
   intro v7 w7 hown7 hg7
   have hk7 : Keeps (fun q => (Value.slice xa Rs.length xc).ownBlock = some q) wr w7 := (Keeps.of_ext (Ext.trans E5 (by subst hrr; exact hxa))).trans (Keeps.of_grown hg7 (fun q h => h))
   have hE7 : Ext w w7 := Keeps.ext HEX.out hk7 (fun q hq => (HOW.out.lt q hq).1)
   have hkr : Keeps (fun q => (Value.slice xa Rs.length xc).ownBlock = some q) w5 w7 := (Keeps.of_ext (by subst hrr; exact hxa)).trans (Keeps.of_grown hg7 (fun q h => h))
   have hnt : ∀ (W : World) (q : RuleD) (B : Nat), RuleOwn B W q → W.ownsRow w.heap.size 57 19 (.slice xa Rs.length xc) Rs.length (Rs.flatMap encR) → ∀ g, q.has g → ¬ (Value.slice xa Rs.length xc).ownBlock = some g := fun W q B hq ho g hg e => by
    obtain ⟨cs, fz, hcs⟩ := ownsRow_kind ho g e
    have h1 := owns_type ho e hcs
    rcases hq.type hg hcs with h | h | h <;> exact absurd (h1.symm.trans h) (by decide)
   have hros7 : ∀ q ∈ Rs ++ [r], RuleOwn w.heap.size w7 q := fun q hq => by
    rcases List.mem_append.1 hq with hq | hq
    ·exact (HRO.out q hq).keeps hk7 (hnt wr q _ (HRO.out q hq) HOW.out)
    ·rw [List.mem_singleton.1 hq]
     exact (hor2.keeps hkr (hnt w5 r _ hor2 (owns_ext HOW.out E5))).mono HEX.out.size
   have hown8 : w7.ownsRow w.heap.size 57 19 v7 (Rs ++ [r]).length ((Rs ++ [r]).flatMap encR) := by simpa using hown7
   have hco7 : (Rs ++ [r]).map RuleD.core = genRs L (i + 1) := by rw [genRs_succ, List.map_append, HCO.out, ← hrc]; rfl
   have hj7 : ∀ j, j < i + 1 → 8 * j < L.length := fun j hj => by
    rcases Nat.lt_succ_iff_lt_or_eq.1 hj with h | h
    ·exact HJ.out j h
    ·omega
   have H1 := hide hros7
   have H2 := hide hown8
   have H3 := hide hco7
   have H4 := hide hj7
   have H5 := hide hE7
   clear hros7 hown8 hco7 hj7 hE7 hown7 hg7 hk7 hkr hnt hrl hxa hEx
   refine wpList_plain rfl fun K hK => ?_
   go_simp
   refine hK _ _ ?_
   refine wpList_nil ?_
   go_wp2
   go_roundw
   case rel => exact ⟨i + 1, Rs ++ [r], by go_num, by omega, H4.out, H2.out, H3.out, H1.out, H5.out⟩
   case measure => simp [intOf] <;> omega
  ·have hrn : rulesN L = i := by
    unfold rulesN
    have h1 : i = 0 ∨ 8 * (i - 1) < L.length := by
     rcases Nat.eq_zero_or_pos i with h | h
     ·exact .inl h
     ·exact .inr (HJ.out (i - 1) (by omega))
    rw [Nat.min_def]
    split <;> omega
   have HN := hide hrn
   clear hrn
   by_cases h5 : i < 5
   ·have hltz : (i : Int) < 5 := by omega
    have h8z : ¬ 8 * (i : Int) < L.length := by omega
    have h8w : IntKind.i64.wrap (8 * (i : Int)) = 8 * (i : Int) := IntWalk.i64_in _ (by omega)
    clear hlt
    go_wp2
    go_ret
    exact ⟨_, rfl, Rs, by rw [HN.out]; exact HCO.out, HOW.out, HRO.out, HEX.out⟩
   ·have hltz : ¬ (i : Int) < 5 := by omega
    clear hlt
    go_wp2
    go_ret
    exact ⟨_, rfl, Rs, by rw [HN.out]; exact HCO.out, HOW.out, HRO.out, HEX.out⟩
end Go.Proofs.YtmpciohmljpncaaGreatDoor

/- The paths made of numbers are paths. -/
namespace Go.Proofs.YtmpciohmljpncaaGreatDoor
open Go.ChangeShapes Go.WideShapes Go.ChangeAt Go.RowKit Go.Lib Go.Shelf
set_option maxRecDepth 100000 in
theorem pathN_path (k : Nat) : isPath (pathN k) = true ∧ (pathN k).length ≤ 9 := by
 unfold pathN
 have hk : k % 4 < 4 := Nat.mod_lt _ (by omega)
 have h1 : k / 4 % 4 < 4 := Nat.mod_lt _ (by omega)
 have h2 : k / 4 / 4 % 4 < 4 := Nat.mod_lt _ (by omega)
 have h3 : k / 4 / 4 / 4 % 4 < 4 := Nat.mod_lt _ (by omega)
 rcases (by omega : k % 4 = 0 ∨ k % 4 = 1 ∨ k % 4 = 2 ∨ k % 4 = 3) with h | h | h | h
 ·rw [if_pos h]; exact ⟨by decide, by decide⟩
 all_goals
  rw [if_neg (by omega), h]
  simp only [pathGo]
  generalize k / 4 % 4 = d1 at *
  generalize k / 4 / 4 % 4 = d2 at *
  generalize k / 4 / 4 / 4 % 4 = d3 at *
  clear h hk
 ·rcases (by omega : d1 = 0 ∨ d1 = 1 ∨ d1 = 2 ∨ d1 = 3) with rfl | rfl | rfl | rfl <;> exact ⟨by decide, by decide⟩
 ·rcases (by omega : d1 = 0 ∨ d1 = 1 ∨ d1 = 2 ∨ d1 = 3) with rfl | rfl | rfl | rfl <;> rcases (by omega : d2 = 0 ∨ d2 = 1 ∨ d2 = 2 ∨ d2 = 3) with rfl | rfl | rfl | rfl <;> exact ⟨by decide, by decide⟩
 ·rcases (by omega : d1 = 0 ∨ d1 = 1 ∨ d1 = 2 ∨ d1 = 3) with rfl | rfl | rfl | rfl <;> rcases (by omega : d2 = 0 ∨ d2 = 1 ∨ d2 = 2 ∨ d2 = 3) with rfl | rfl | rfl | rfl <;> rcases (by omega : d3 = 0 ∨ d3 = 1 ∨ d3 = 2 ∨ d3 = 3) with rfl | rfl | rfl | rfl <;> exact ⟨by decide, by decide⟩
theorem hchk_match (k1 k2 : Int) : hchk (matchH k1 k2) = 0 := by
 have hd : ∀ i k, (hdM i k = hdM i k) ∧ ∃ d e, d < 3 ∧ e < 3 ∧ hdM i k = (nmM d, vlM e) := fun i k => ⟨rfl, i * k / 3 % 3, k / 9 % 3, Nat.mod_lt _ (by omega), Nat.mod_lt _ (by omega), rfl⟩
 have hs : ∀ (H : List HeadD) (i k : Nat), (stepM H i k = H) ∨ ∃ d e, d < 3 ∧ e < 3 ∧ (getH H (bl (nmM d))).isSome = false ∧ stepM H i k = H ++ [(nmM d, vlM e)] := fun H i k => by
  obtain ⟨-, d, e, h1, h2, h3⟩ := hd i k
  unfold stepM
  split
  ·split
   ·exact .inl rfl
   ·rename_i hg
    rw [h3] at hg ⊢
    exact .inr ⟨d, e, h1, h2, by simpa using hg, rfl⟩
  ·exact .inl rfl
 have hone : ∀ d, d < 3 → ∀ e, e < 3 → hchk [(nmM d, vlM e)] = 0 := by decide
 have htwo : ∀ d, d < 3 → ∀ e, e < 3 → ∀ d', d' < 3 → ∀ e', e' < 3 → (getH [(nmM d, vlM e)] (bl (nmM d'))).isSome = false → hchk ([(nmM d, vlM e)] ++ [(nmM d', vlM e')]) = 0 := by decide
 unfold matchH
 rcases hs [] 1 (arN k1 1000) with h | ⟨d, e, hd1, he1, -, h⟩
 ·rw [h]
  rcases hs [] 2 (arN k2 1000) with h' | ⟨d', e', hd2, he2, -, h'⟩
  ·rw [h']; rfl
  ·rw [h']; exact hone d' hd2 e' he2
 ·rw [h]
  rcases hs ([] ++ [(nmM d, vlM e)]) 2 (arN k2 1000) with h' | ⟨d', e', hd2, he2, hg, h'⟩
  ·rw [h']; exact hone d hd1 e he1
  ·rw [h']; exact htwo d hd1 e he1 d' hd2 e' he2 hg
end Go.Proofs.YtmpciohmljpncaaGreatDoor

/- The rules made of numbers are right. -/
namespace Go.Proofs.YtmpciohmljpncaaGreatDoor
open Go.ChangeShapes Go.WideShapes Go.ChangeAt Go.RowKit Go.Lib Go.Shelf
theorem nmM_size (d : Nat) : (nmM d).size ≤ 1 := by
 unfold nmM
 split
 ·exact Nat.le_refl 1
 ·split <;> exact Nat.le_refl 1
theorem vlM_size (d : Nat) : (vlM d).size ≤ 1 := by
 unfold vlM
 split
 ·exact Nat.zero_le 1
 ·split <;> exact Nat.le_refl 1
theorem hsz_step {H : List HeadD} (h : HSz H) (i k : Nat) : HSz (stepM H i k) := by
 unfold stepM
 split
 ·split
  ·exact h
  ·intro x hx
   rcases List.mem_append.1 hx with hx | hx
   ·exact h x hx
   ·rw [List.mem_singleton.1 hx]
    have h1 := nmM_size (i * k / 3 % 3)
    have h2 := vlM_size (k / 9 % 3)
    exact ⟨show (nmM _).size ≤ _ by omega, show (vlM _).size ≤ _ by omega⟩
 ·exact h
theorem hsz_match (k1 k2 : Int) : HSz (matchH k1 k2) := hsz_step (hsz_step (fun x hx => by cases hx) _ _) _ _
theorem genR_path (L : List Int) : (genR L).path = pathA (kN L 0 / 3) := by
 simp only [genR, core10, core9, core8, core7, core6, core5, core4, core3, core2, core1, core0, apply_ite RuleD.path, ite_self]
theorem genR_H (L : List Int) : (genR L).H = matchH (kN L 1) (kN L 2) := by
 simp only [genR, core10, core9, core8, core7, core6, core5, core4, core3, core2, core1, core0, apply_ite RuleD.H, ite_self]
theorem genR_P (L : List Int) : (genR L).P = if (kN L 3 : Int) % 3 = 1 then [(1 + (kN L 3 : Int) % 4, 1 + (kN L 3 : Int) / 4 % 5), (1 + ((kN L 3 : Int) + 1) % 4, (kN L 3 : Int) / 20 % 4)] else [(1 + (kN L 3 : Int) % 4, 1 + (kN L 3 : Int) / 4 % 5)] := by
 simp only [genR, core10, core9, core8, core7, core6, core5, core4, core3, core2, core1, core0, apply_ite RuleD.P, ite_self, List.cons_append, List.nil_append]
theorem genR_mi (L : List Int) : (genR L).mi = if (kN L 4 : Int) % 5 = 1 then 1 + (kN L 4 : Int) / 5 % 4 else 0 := by
 simp only [genR, core10, core9, core8, core7, core6, core5, core4, core3, core2, core1, core0, apply_ite RuleD.mi, ite_self]
theorem genR_ab (L : List Int) : (genR L).ab = if (kN L 4 : Int) % 7 = 2 then (kN L 4 : Int) / 7 % 4 else 0 := by
 simp only [genR, core10, core9, core8, core7, core6, core5, core4, core3, core2, core1, core0, apply_ite RuleD.ab, ite_self]
theorem genR_de (L : List Int) : (genR L).de = if (kN L 4 : Int) % 7 = 2 then (kN L 4 : Int) / 28 % 3 else 0 := by
 simp only [genR, core10, core9, core8, core7, core6, core5, core4, core3, core2, core1, core0, apply_ite RuleD.de, ite_self]
theorem genR_ti (L : List Int) : (genR L).ti = if (kN L 4 : Int) % 7 = 2 then (kN L 4 : Int) / 84 % 9 else 0 := by
 simp only [genR, core10, core9, core8, core7, core6, core5, core4, core3, core2, core1, core0, apply_ite RuleD.ti, ite_self]
theorem genR_pre (L : List Int) : (genR L).pre = if (kN L 5 : Int) % 3 = 1 then pathA (kN L 5 / 3) else ⟨#[]⟩ := by
 simp only [genR, core10, core9, core8, core7, core6, core5, core4, core3, core2, core1, core0, apply_ite RuleD.pre, ite_self]
theorem genR_S (L : List Int) : (genR L).S = if (kN L 5 : Int) % 4 = 1 then [(⟨#[97]⟩, vlM (kN L 5 / 4 % 3))] else [] := by
 simp only [genR, core10, core9, core8, core7, core6, core5, core4, core3, core2, core1, core0, apply_ite RuleD.S, ite_self]
theorem genR_D (L : List Int) : (genR L).D = if (kN L 5 : Int) % 5 = 1 then [⟨#[98]⟩] else [] := by
 simp only [genR, core10, core9, core8, core7, core6, core5, core4, core3, core2, core1, core0, apply_ite RuleD.D, ite_self]
theorem genR_q0 (L : List Int) : (genR L).q0 = 5 + (kN L 6 : Int) % 60 := by
 simp only [genR, core10, core9, core8, core7, core6, core5, core4, core3, core2, core1, core0, apply_ite RuleD.q0, ite_self]
theorem genR_q1 (L : List Int) : (genR L).q1 = 1 + (kN L 6 : Int) / 60 % 4 := by
 simp only [genR, core10, core9, core8, core7, core6, core5, core4, core3, core2, core1, core0, apply_ite RuleD.q1, ite_self]
theorem genR_q2 (L : List Int) : (genR L).q2 = (kN L 6 : Int) / 240 % 5 := by
 simp only [genR, core10, core9, core8, core7, core6, core5, core4, core3, core2, core1, core0, apply_ite RuleD.q2, ite_self]
theorem genR_q3 (L : List Int) : (genR L).q3 = if (kN L 7 : Int) % 3 = 1 then 3 + (kN L 7 : Int) / 3 % 20 else 0 := by
 simp only [genR, core10, core9, core8, core7, core6, core5, core4, core3, core2, core1, core0, apply_ite RuleD.q3, ite_self]
theorem genR_q4 (L : List Int) : (genR L).q4 = (kN L 7 : Int) / 60 % 4 := rfl
theorem genR_q5 (L : List Int) : (genR L).q5 = 1 + (kN L 7 : Int) / 240 % 4 := rfl
theorem genR_q6 (L : List Int) : (genR L).q6 = (kN L 7 : Int) / 960 % 4 := rfl
theorem genR_rate (L : List Int) : (genR L).rate = 0 := by
 simp only [genR, core10, core9, core8, core7, core6, core5, core4, core3, core2, core1, core0, apply_ite RuleD.rate, ite_self]
theorem bl_pathA' (n : Nat) : bl (pathA n) = pathN n := rfl
theorem pathA_size (n : Nat) : (pathA n).size ≤ 9 := (pathN_path n).2
theorem outB_in {lo hi n : Int} (h : lo ≤ n ∧ n ≤ hi) : outB lo hi n = false := by
 unfold outB
 rw [decide_eq_false (by omega), decide_eq_false (by omega)]
 rfl
theorem check_one (s v : Int) (h1 : 1 ≤ s ∧ s ≤ 10) (h2 : 1 ≤ v ∧ v ≤ 100) : Sp.check [(s, v)] = 0 := by
 have hg : Sp.checkGo [(s, v)] [] = 0 := by
  simp only [Sp.checkGo]
  rw [if_neg (by simp; omega), if_neg (by omega)]
 unfold Sp.check
 rw [hg, if_neg (by simp), if_neg (by simp [Sp.sumW]; omega)]
theorem check_two (s v t u : Int) (h1 : 1 ≤ s ∧ s ≤ 10) (h2 : 1 ≤ v ∧ v ≤ 100) (h3 : 1 ≤ t ∧ t ≤ 10) (h4 : 0 ≤ u ∧ u ≤ 100) (hne : t ≠ s) : Sp.check [(s, v), (t, u)] = 0 := by
 have hg : Sp.checkGo [(s, v), (t, u)] [] = 0 := by
  simp only [Sp.checkGo]
  rw [if_neg (by simp; omega), if_neg (by omega), if_neg (by simp; omega), if_neg (by omega)]
 unfold Sp.check
 rw [hg, if_neg (by simp), if_neg (by simp [Sp.sumW]; omega)]
theorem genR_right (L : List Int) (rates : Int) (h : 0 ≤ rates) : rchk (genR L) rates = 0 := by
 have hp := (pathN_path (kN L 0 / 3)).1
 have hq := (pathN_path (kN L 5 / 3)).1
 have hm : mchk (bl (genR L).path) (genR L).H = 0 := by
  rw [genR_path, genR_H, bl_pathA']
  unfold mchk
  rw [hp, if_pos rfl]
  exact hchk_match _ _
 have hc : Sp.check (genR L).P = 0 := by
  rw [genR_P]
  split
  ·exact check_two _ _ _ _ (by omega) (by omega) (by omega) (by omega) (by omega)
  ·exact check_one _ _ (by omega) (by omega)
 have hmi : outB 0 10 (genR L).mi = false := outB_in (by rw [genR_mi]; split <;> omega)
 have hin : injB (genR L).ab (genR L).de (genR L).ti = false := by
  unfold injB
  rw [outB_in (n := (genR L).ab) (by rw [genR_ab]; split <;> omega), outB_in (n := (genR L).de) (by rw [genR_de]; split <;> omega), outB_in (n := (genR L).ti) (by rw [genR_ti]; split <;> omega)]
  rfl
 have hS : hchk (genR L).S = 0 := by
  rw [genR_S]
  split
  ·have : ∀ d, d < 3 → hchk [(⟨#[97]⟩, vlM d)] = 0 := by decide
   exact this _ (Nat.mod_lt _ (by omega))
  ·rfl
 have hD : (genR L).D.length ≤ 1 ∧ (genR L).D.all dropB = true := by
  rw [genR_D]
  split
  ·exact ⟨Nat.le_refl _, by decide⟩
  ·exact ⟨Nat.zero_le _, rfl⟩
 have hw : wrchk (genR L).pre (genR L).S (genR L).D = 0 := by
  have h1 : ¬ (bl (genR L).pre ≠ [] ∧ isPath (bl (genR L).pre) = false) := by
   rw [genR_pre]
   split
   ·rw [bl_pathA', hq]; simp
   ·exact fun h => h.1 rfl
  unfold wrchk
  rw [if_neg h1, if_neg (by rw [hS]; simp), if_neg (by omega), if_pos hD.2]
 have hpo : polB (genR L).q0 (genR L).q1 (genR L).q2 (genR L).q3 (genR L).q4 (genR L).q5 (genR L).q6 = true := by
  unfold polB
  rw [outB_in (n := (genR L).q0) (by rw [genR_q0]; omega), outB_in (n := (genR L).q1) (by rw [genR_q1]; omega), outB_in (n := (genR L).q2) (by rw [genR_q2]; omega), outB_in (n := (genR L).q3) (by rw [genR_q3]; split <;> omega), outB_in (n := (genR L).q4) (by rw [genR_q4]; omega), outB_in (n := (genR L).q5) (by rw [genR_q5]; omega), outB_in (n := (genR L).q6) (by rw [genR_q6]; omega)]
  rfl
 unfold rchk
 rw [hm, hc, hmi, hin, hw, hpo, genR_rate, outB_in (n := 0) (by omega)]
 rfl
theorem genR_fit (L : List Int) : RuleFit (genR L) := by
 refine ⟨?_, ?_, ?_, ?_, ?_, ?_, ?_⟩
 ·rw [genR_path]
  have := pathA_size (kN L 0 / 3)
  unfold SzB
  omega
 ·rw [genR_pre]
  split
  ·have := pathA_size (kN L 5 / 3)
   unfold SzB
   omega
  ·exact Nat.zero_le _
 ·rw [genR_H]; exact hsz_match _ _
 ·rw [genR_S]
  split
  ·intro x hx
   rw [List.mem_singleton.1 hx]
   have := vlM_size (kN L 5 / 4 % 3)
   exact ⟨show (1 : Nat) ≤ _ by omega, show (vlM _).size ≤ _ by omega⟩
  ·intro x hx; cases hx
 ·rw [genR_D]
  split
  ·intro x hx
   rw [List.mem_singleton.1 hx]
   exact (show (1 : Nat) ≤ _ by omega)
  ·intro x hx; cases hx
 ·rw [genR_P]
  unfold I64
  split
  ·intro x hx
   rcases List.mem_cons.1 hx with rfl | hx
   ·constructor <;> constructor <;> simp only <;> omega
   ·rw [List.mem_singleton.1 hx]
    constructor <;> constructor <;> simp only <;> omega
  ·intro x hx
   rw [List.mem_singleton.1 hx]
   constructor <;> constructor <;> simp only <;> omega
 ·rw [genR_P]
  split <;> simp
end Go.Proofs.YtmpciohmljpncaaGreatDoor
