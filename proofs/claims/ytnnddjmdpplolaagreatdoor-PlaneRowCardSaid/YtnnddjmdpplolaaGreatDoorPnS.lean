/- PlaneRow: its walk (printed by wip/gen_pns.py). -/
import Derived.Test.YtnnddjmdpplolaaGreatDoorPnR
namespace Go.Proofs.YtnnddjmdpplolaaGreatDoor
open Go.ChangeShapes Go.WideShapes Go.ChangeAt Go.RowKit Go.Lib Go.Shelf Go.Maps
theorem PlaneIs.base {B B' : Nat} {w : World} {p bm : Nat} {vv : Value} {N : Nat} {pl : PlD} (h : PlaneIs B w p bm vv N pl) (hB : B' ≤ B) : PlaneIs B' w p bm vv N pl :=
 ⟨Nat.le_trans hB h.hp, Nat.le_trans hB h.hm, h.box, owns_mono h.row hB, h.sm, h.ver⟩
/-- i versions, and no word of them -/
structure Row0 (i : Nat) (pl : PlD) : Prop where
 k3 : pl.k = 3
 len : pl.V.length = i
 acks : ∀ m ∈ pl.V, m.acks = 0
 said : ∀ x, pl.said x = 0
theorem Row0.new : Row0 0 (pl0 3) := ⟨rfl, rfl, fun m hm => (by cases hm), fun _ => rfl⟩
theorem Row0.pub {i : Nat} {pl : PlD} (h : Row0 i pl) (b : Nat) : Row0 (i + 1) (pubP pl b) :=
 ⟨h.k3, by simp [pubP, h.len], fun m hm => (List.mem_append.1 hm).elim (h.acks m) (fun h1 => by rw [List.mem_singleton.1 h1]), h.said⟩
theorem Row0.st {k : Nat} {pl : PlD} (h : Row0 k pl) (l : List Int) : RowSt k l (fun _ => false) pl := by
 refine ⟨h.k3, h.len, fun i hi => ?_, fun x => ?_⟩
 ·have hi2 : i < pl.V.length := by rw [h.len]; exact hi
  rw [List.getD_eq_getElem?_getD, List.getElem?_eq_getElem hi2]
  show pl.V[i].acks = _
  rw [h.acks _ (List.getElem_mem hi2)]
  simp [acksD, oneD]
 ·rw [h.said]
  simp [saidD]
theorem RowSt.congrD {k : Nat} {l : List Int} {D D' : Nat → Bool} {pl : PlD} (h : RowSt k l D pl) (e : ∀ j, D j = D' j) : RowSt k l D' pl := by
 have : D = D' := funext e
 rw [← this]
 exact h
/-- what each place says -/
def saidL (L : List Int) (m : Nat) : List Int := (List.range m).map fun i => if i < L.length then around (L.getD i 0) 3 else 0
theorem saidL_len (L : List Int) (m : Nat) : (saidL L m).length = m := by simp [saidL]
theorem saidL_get (L : List Int) (m i : Nat) (hi : i < m) : (saidL L m)[i]'(by rw [saidL_len]; exact hi) = if i < L.length then around (L.getD i 0) 3 else 0 := by simp [saidL]
theorem saidL_getD (L : List Int) (m i : Nat) (hi : i < m) : (saidL L m).getD i 0 = (saidL L m)[i]'(by rw [saidL_len]; exact hi) := by
 rw [List.getD_eq_getElem?_getD, List.getElem?_eq_getElem (by rw [saidL_len]; exact hi)]
 rfl
theorem saidL_3 (L : List Int) (m i : Nat) (hi : i < m) : (saidL L m).getD i 0 = 0 ∨ (saidL L m).getD i 0 = 1 ∨ (saidL L m).getD i 0 = 2 := by
 rw [saidL_getD L m i hi, saidL_get L m i hi]
 split
 ·have := around_bd (L.getD i 0) 3 (by decide)
  omega
 ·exact .inl rfl
/-- all three have a version -/
def allB (S : List Int) (v : Nat) : Bool := decide (S.getD (3 * (v - 1)) 0 = 1 ∧ S.getD (3 * (v - 1) + 1) 0 = 1 ∧ S.getD (3 * (v - 1) + 2) 0 = 1)
set_option maxRecDepth 100000 in
set_option maxHeartbeats 16000000 in
theorem row17_walk (n : Int) (L : List Int) (v : Value) (w : World) (hs : Ints w v L) (hL : ∀ x ∈ L, I64 x) (hn : I64 n) (hm : MaxV w) :
  Calls Tryz.prog 3 #[.int .i64 n, v] w fun e w' => e = .returned (.bool true) ∧ Ext w w' := by
 obtain ⟨cd, hcd1, hcd2⟩ := Tryz.confDesc
 obtain ⟨i0, hi, hz0, hz1, hz2⟩ := info_z' infoI'
 obtain ⟨hl63, a, cap, rfl⟩ := hs.shape
 have HM := hide hm
 have HS := hide hs
 have HL := hide hL
 clear hm hs hL
 go_enter Tryz.func3, Tryz.ntmps3
 go_wp2_with fail
 refine (planeNew_any 3 w (by decide)).mono ?_
 rintro e W0 ⟨p, bm, rfl, hp0, E0⟩
 have HP := hide hp0
 have HE0 := hide E0
 clear hp0 E0
 go_wp2_with fail
 refine (planeNew_any 3 W0 (by decide)).mono ?_
 rintro e W1 ⟨q, bn, rfl, hq0, E1⟩
 have HT := hide (show TwoPl w.heap.size W1 p bm q bn (.slice none 0 0) (.slice none 0 0) 0 (pl0 3) (pl0 3) from by
  have h1 := HP.out.lt
  have h2 := hq0.hp
  have h3 := hq0.hm
  obtain ⟨n, -, hs⟩ := HP.out.sm
  have h4 := hs.lt
  exact ⟨HP.out.ext E1, hq0.base HE0.out.size, by omega, by omega, fun g hg => by cases hg⟩)
 have HE1 := hide (HE0.out.trans E1)
 clear hq0 E1 HP HE0
 have hr1 := around_bd n 4 (by decide)
 obtain ⟨r, hr⟩ : ∃ r : Nat, around n 4 = (r : Int) := ⟨(around n 4).toNat, by omega⟩
 rw [hr] at hr1
 have hwr : IntKind.i64.wrap (1 + (r : Int)) = ((r + 1 : Nat) : Int) := by rw [IntKind.wrap_i64]; omega
 have har := around_any n 4 W1 hn (by omega)
 rw [hr] at har
 have HAR := hide har
 clear hr har
 go_wp2_with fail
 refine HAR.out.mono ?_
 rintro e w' ⟨rfl, rfl⟩
 clear HAR
 obtain ⟨k, hk⟩ : ∃ k : Nat, r + 1 = k := ⟨_, rfl⟩
 rw [hk] at hwr
 have hk4 : k ≤ 4 := by omega
 clear hr1
 go_wp2_with fail
 refine (conf_any [] (.slice none 0 0) W1 (ints_nil _) (fun _ h => by cases h)).mono ?_
 rintro e W2 ⟨c, rfl, hc, ho, E2⟩
 have G := hide (good_conf hc)
 clear hc
 have hbz := heap_alloc_new W2 (.cells #[.slice none 0 0, .slice none 0 0, .slice none 0 0, .slice none 0 0, .int .i64 0, .int .i64 0, .int .i64 0, .int .i64 0, .int .i64 0, .int .i64 0, .int .i64 0, .int .i64 0, .int .i64 0, .int .i64 0, .int .i64 0, .int .i64 0, .int .i64 0, .int .i64 0, .int .i64 0, .int .i64 0] 33)
 have hxz : Ext W2 (W2.alloc (.cells #[.slice none 0 0, .slice none 0 0, .slice none 0 0, .slice none 0 0, .int .i64 0, .int .i64 0, .int .i64 0, .int .i64 0, .int .i64 0, .int .i64 0, .int .i64 0, .int .i64 0, .int .i64 0, .int .i64 0, .int .i64 0, .int .i64 0, .int .i64 0, .int .i64 0, .int .i64 0, .int .i64 0] 33)) := (Below.refl _ _).alloc (Nat.le_refl _) _
 have hth : (W2.alloc (.cells #[.slice none 0 0, .slice none 0 0, .slice none 0 0, .slice none 0 0, .int .i64 0, .int .i64 0, .int .i64 0, .int .i64 0, .int .i64 0, .int .i64 0, .int .i64 0, .int .i64 0, .int .i64 0, .int .i64 0, .int .i64 0, .int .i64 0, .int .i64 0, .int .i64 0, .int .i64 0, .int .i64 0] 33)).there W2.heap.size 0 20 := fun q hq => by
  rw [Nat.zero_add]
  refine ⟨?_, by simp only [World.frozen?]; rw [hbz]; simp⟩
  simp only [World.cell?, hbz]
  simp [hq]
 go_upto_region 7 with (refine wpList_store_mid rfl 33 (.tmp 8) (.tmp 28) rfl W2.heap.size 0 (encC c).toArray rfl rfl hth Tryz.confSize (all_oneCell_toArray (encC_one' ho)) ?_)
 generalize W2.alloc (.cells #[.slice none 0 0, .slice none 0 0, .slice none 0 0, .slice none 0 0, .int .i64 0, .int .i64 0, .int .i64 0, .int .i64 0, .int .i64 0, .int .i64 0, .int .i64 0, .int .i64 0, .int .i64 0, .int .i64 0, .int .i64 0, .int .i64 0, .int .i64 0, .int .i64 0, .int .i64 0, .int .i64 0] 33) = Wz at hbz hxz hth ⊢
 obtain ⟨b8, hbe⟩ : ∃ b, W2.heap.size = b := ⟨_, rfl⟩
 rw [hbe] at hbz hth ⊢
 have hbb8 : w.heap.size ≤ b8 := by have := (HE1.out.trans E2).size; omega
 have hrs := World.rangeAt_setCells_same Wz b8 0 (encC c) hth
 obtain ⟨cs, hcs1, hcs2⟩ := setCells_block b8 33 (0, 0) (encC c) 0 Wz _ hbz
 have hk5 := keeps_setCells b8 (encC c) 0 Wz
 show Code.wp _ _ _ _ (Wz.setCells b8 0 (encC c))
 generalize Wz.setCells b8 0 (encC c) = W3 at hrs hk5 hcs1 ⊢
 have HB := hide (show BoxC W3 b8 c from BoxC.of_range hcs1 (by rw [hcs2]; rfl) hrs)
 have HX := hide (Keeps.ext ((HE1.out.trans E2).trans hxz) hk5 (fun g hg => by omega))
 have HO := hide (((ho).ext hxz).keepT hk5 (OfT.one hbz) (by decide) (by decide) (by decide) (by decide) (by decide) (by decide) (by decide))
 have hGb8 : W2.heap.size ≤ b8 := by omega
 have hEb8 : Ext W2 W3 := ((Keeps.of_ext hxz).trans hk5 : Keeps (fun g => g = b8) W2 W3).below (Nat.le_refl _) (fun g hg => by omega)
 clear hrs hk5 hcs1 hcs2 hbz hxz hth
 have HT3 := hide (HT.out.ext (E2.trans hEb8))
 have hB' : W1.heap.size ≤ W3.heap.size := by have := E2.size; have := hEb8.size; omega
 have HBB := hide hB'
 clear HT ho E2 hEb8 hGb8 hB' hwr hk HE1
 go_wp2_with fail
 go_loopw [9] (fun v9 wr => ∃ i : Nat, i ≤ k ∧ v9 = .int .i64 i ∧ Hid (∃ va vb pa pb, TwoPl w.heap.size wr p bm q bn va vb 0 pa pb ∧ Row0 i pa ∧ Row0 i pb ∧ KP w.heap.size W3 wr)) (fun i _ => k - (intOf i).toNat)
 case atStart => exact ⟨0, Nat.zero_le _, rfl, ⟨_, _, _, _, HT3.out, Row0.new, Row0.new, KP.refl _ _⟩⟩
 case round =>
  obtain ⟨i, hik, rfl, hx⟩ := hrel
  obtain ⟨va, vb, pa, pb, ht, ha, hb, hkp⟩ := hx.out
  have T := hide ht
  have RA := hide ha
  have RB := hide hb
  have KK := hide hkp
  clear hx ht ha hb hkp
  generalize wr = wo at *
  by_cases hlt : i < k
  ·have hltz : (i : Int) < k := by omega
   have hwi : IntKind.i64.wrap ((i : Int) + 1) = ((i + 1 : Nat) : Int) := by rw [IntKind.wrap_i64]; omega
   have HWI := hide hwi
   clear hwi
   go_upto_region 10 with (fail)
   refine wp_region_lit ?_
   refine wpList_plain rfl fun K hK => ?_
   go_simp
   refine hK _ _ ?_
   refine wpList_load_mid rfl 33 (.tmp 8) rfl b8 0 rfl (encC c) cd ((KK.out.boxC HB.out).range) hcd1 hcd2 Tryz.confSize ?_
   simp only [Act.put]
   go_wp2_with fail
   refine (two_publish T.out W1.heap.size c (KK.out.conf HO.out) (Nat.le_trans HBB.out KK.out.size) G.out.1 (Nat.le_trans G.out.2.2 (by decide)) G.out.2.1 (HM.out.ext (KK.out.ext HX.out (Nat.le_refl _))) (by have := RA.out.len; omega) (Nat.le_trans HX.out.size KK.out.size)).mono ?_
   rintro e X1 ⟨rfl, ⟨bX1, vX1, hp⟩, hk⟩
   have T1 := hide hp
   have K1 := hide (KK.out.trans hk)
   clear hp hk
   go_upto_region 11 with (fail)
   refine wp_region_lit ?_
   refine wpList_plain rfl fun K hK => ?_
   go_simp
   refine hK _ _ ?_
   refine wpList_load_mid rfl 33 (.tmp 8) rfl b8 0 rfl (encC c) cd ((K1.out.boxC HB.out).range) hcd1 hcd2 Tryz.confSize ?_
   simp only [Act.put]
   go_wp2_with fail
   refine (two_publish T1.out.swap W1.heap.size c (K1.out.conf HO.out) (Nat.le_trans HBB.out K1.out.size) G.out.1 (Nat.le_trans G.out.2.2 (by decide)) G.out.2.1 (HM.out.ext (K1.out.ext HX.out (Nat.le_refl _))) (by have := RB.out.len; omega) (Nat.le_trans HX.out.size K1.out.size)).mono ?_
   rintro e X2 ⟨rfl, ⟨bX2, vX2, hp⟩, hk⟩
   have T2 := hide hp
   have K2 := hide (K1.out.trans hk)
   clear hp hk
   have hwi := HWI.out
   go_wp2
   go_roundw
   case rel => exact ⟨i + 1, by omega, by go_num, ⟨_, _, _, _, T2.out.swap, RA.out.pub _, RB.out.pub _, K2.out⟩⟩
   case measure => (simp [intOf]) <;> omega
  ·obtain rfl : k = i := by omega
   clear HT3 HB HO G HBB hlt
   have HX4 := hide (KK.out.ext HX.out (Nat.le_refl _))
   have HS4 := hide (HS.out.ext HX4.out)
   have RA' := hide (RA.out.st (saidL L (3 * k)))
   have RB' := hide (RB.out.st (saidL L (3 * k)))
   clear KK HX RA RB HS
   have hw3 : IntKind.i64.wrap (3 * (k : Int)) = ((3 * k : Nat) : Int) := by rw [IntKind.wrap_i64]; omega
   obtain ⟨m, hm3⟩ : ∃ m : Nat, 3 * k = m := ⟨_, rfl⟩
   rw [hm3] at hw3
   have hm12 : m ≤ 12 := by omega
   obtain ⟨S, hS⟩ : ∃ S, saidL L m = S := ⟨_, rfl⟩
   have hSl : S.length = m := by rw [← hS]; exact saidL_len L m
   have hSg : ∀ j (hj : j < m), S[j]'(by omega) = if j < L.length then around (L.getD j 0) 3 else 0 := fun j hj => by subst hS; exact saidL_get L m j hj
   have hS3 : ∀ j, j < m → S.getD j 0 = 0 ∨ S.getD j 0 = 1 ∨ S.getD j 0 = 2 := fun j hj => by subst hS; exact saidL_3 L m j hj
   have hSd : ∀ j (hj : j < m), S.getD j 0 = S[j]'(by omega) := fun j hj => by
    rw [List.getD_eq_getElem?_getD, List.getElem?_eq_getElem (by omega)]
    rfl
   rw [hm3, hS] at RA' RB'
   have HSG := hide hSg
   have HS3 := hide hS3
   have HSD := hide hSd
   have HSL := hide hSl
   have HM3 := hide hm3
   clear hS hSg hS3 hSd
   have hwsz := HX4.out.size
   go_wp2_with fail
   go_loopw [10, 11] (fun v10 v11 wr => ∃ i : Nat, i ≤ m ∧ v11 = .int .i64 i ∧ Hid (wr.ownsRow wo.heap.size 3 1 v10 i ((S.take i).flatMap encI) ∧ Ext wo wr)) (fun _ i _ => m - (intOf i).toNat)
   case atStart => exact ⟨0, Nat.zero_le _, rfl, ⟨⟨by simp, .inl ⟨rfl, rfl⟩⟩, Below.refl _ _⟩⟩
   case round =>
    obtain ⟨i, him, rfl, hx⟩ := hrel
    obtain ⟨hown, hext⟩ := hx.out
    clear hx
    generalize wr = wp at *
    by_cases hlt : i < m
    ·have hltz : (i : Int) < m := by omega
     have hwi : IntKind.i64.wrap ((i : Int) + 1) = ((i + 1 : Nat) : Int) := by rw [IntKind.wrap_i64]; omega
     have hsn : ((S.take (i + 1)).flatMap encI) = ((S.take i).flatMap encI) ++ [.int .i64 (S[i]'(by omega))] := by rw [take_snoc S i (by omega), List.flatMap_append]; rfl
     rw [HSG.out i hlt] at hsn
     obtain ⟨an, cn, rfl⟩ := owns_shape hown
     have hsz := hext.size
     have HWI := hide hwi
     have HEX := hide hext
     by_cases hil : i < L.length
     ·rw [if_pos hil] at hsn
      have HSN := hide hsn
      have hilz : (i : Int) < L.length := by omega
      obtain ⟨b, off, hav, hbb, c1⟩ := ints_at (HS4.out.ext hext) i hil
      subst hav
      have hgd : L.getD i 0 = L[i] := by
       rw [List.getD_eq_getElem?_getD, List.getElem?_eq_getElem hil]
       rfl
      rw [hgd] at HSN
      have HLI := hide (HL.out _ (List.getElem_mem hil))
      generalize L[i] = x at c1 HSN HLI
      have HOWN := hide hown
      clear hgd hsn hext hwi hown hsz
      go_wp2_with fail
      refine (around_any x 3 wp HLI.out (by omega)).mono ?_
      rintro e w' ⟨rfl, rfl⟩
      have hown := HOWN.out
      have hsz := HEX.out.size
      have hwi := HWI.out
      obtain ⟨y, hy⟩ : ∃ y, around x 3 = y := ⟨_, rfl⟩
      rw [hy] at HSN ⊢
      clear c1 hy HLI
      go_wp2_with (at_builtin; refine wpList_append_own _ (by rfl) _ _ 22 (by rfl) wo.heap.size 3 i0 (.int .i64 0) 1 8 Tryz.underlying22 hi hz0 hz1 hz2 rfl (by decide) _ i _ (by rfl) (hown.alloc _) ⟨wp.heap.size, 0, none⟩ 1 1 [.int .i64 y] (by rfl) (by rfl) (cells_new wp [.int .i64 y] 3) (by simp [Value.oneCell']) (by unfold maxLen; omega) (by omega) (by simp; omega) ?_; intro v2 w2 hown2 hgrow2 _)
      go_roundw
      case rel => exact ⟨i + 1, by omega, by go_num, ⟨by rw [HSN.out]; exact hown2, HEX.out.app hown hgrow2⟩⟩
      case measure => (simp [intOf]) <;> omega
     ·rw [if_neg hil] at hsn
      have HSN := hide hsn
      have hilz : ¬ (i : Int) < L.length := by omega
      clear hsn hil
      go_wp2_with (at_builtin; refine wpList_append_own _ (by rfl) _ _ 22 (by rfl) wo.heap.size 3 i0 (.int .i64 0) 1 8 Tryz.underlying22 hi hz0 hz1 hz2 rfl (by decide) _ i _ (by rfl) (hown.alloc _) ⟨wp.heap.size, 0, none⟩ 1 1 [.int .i64 0] (by rfl) (by rfl) (cells_new wp [.int .i64 0] 3) (by simp [Value.oneCell']) (by unfold maxLen; omega) (by omega) (by simp; omega) ?_; intro v2 w2 hown2 hgrow2 _)
      go_roundw
      case rel => exact ⟨i + 1, by omega, by go_num, ⟨by rw [HSN.out]; exact hown2, HEX.out.app hown hgrow2⟩⟩
      case measure => (simp [intOf]) <;> omega
    ·obtain rfl : m = i := by omega
     rw [List.take_of_length_le (by omega)] at hown
     have HT5 := hide (T.out.ext hext)
     have HX5 := hide (HX4.out.trans hext)
     obtain ⟨aS, cs, rfl⟩ := owns_shape hown
     have HSO := hide hown
     clear T HX4 HS4 hown hext hlt hwsz HSG
     go_wp2_with fail
     go_loopw [13] (fun v13 wr => ∃ i : Nat, i ≤ m ∧ v13 = .int .i64 i ∧ Hid (∃ pa pb, TwoPl w.heap.size wr p bm q bn va vb (i + i) pa pb ∧ RowSt k S (fun j => decide (j < i)) pa ∧ RowSt k S (fun j => decide (m - i ≤ j ∧ j < m)) pb ∧ KP w.heap.size wp wr)) (fun i _ => m - (intOf i).toNat)
     case atStart => exact ⟨0, Nat.zero_le _, rfl, ⟨pa, pb, HT5.out, RA'.out.congrD fun j => by simp, RB'.out.congrD fun j => by first | (simp; done) | (simp; omega), KP.refl _ _⟩⟩
     case round =>
      obtain ⟨i, him, rfl, hx⟩ := hrel
      obtain ⟨qa, qb, ht, ha, hb, hkp⟩ := hx.out
      have T := hide ht
      have RA := hide ha
      have RB := hide hb
      have KK := hide hkp
      clear hx ht ha hb hkp
      generalize wr = wq at *
      by_cases hlt : i < m
      ·have hltz : (i : Int) < m := by omega
       have hwi : IntKind.i64.wrap ((i : Int) + 1) = ((i + 1 : Nat) : Int) := by rw [IntKind.wrap_i64]; omega
       have hw1 : IntKind.i64.wrap ((m : Int) - 1) = ((m - 1 : Nat) : Int) := by rw [IntKind.wrap_i64]; omega
       have hw2 : IntKind.i64.wrap (((m - 1 : Nat) : Int) - (i : Int)) = ((m - 1 - i : Nat) : Int) := by rw [IntKind.wrap_i64]; omega
       obtain ⟨j, hj⟩ : ∃ j : Nat, m - 1 - i = j := ⟨_, rfl⟩
       have hjm : j < m := by omega
       rw [hj] at hw2
       obtain ⟨z, hz⟩ : ∃ z : Nat, m - 1 = z := ⟨_, rfl⟩
       rw [hz] at hw1 hw2
       have HJ := hide (show j + i + 1 = m by omega)
       clear hj hz
       have hir : Ints wq (.slice aS m cs) S := by
        have h1 := KK.out.own HSO.out (by decide) (by decide)
        have h2 := HSL.out
        subst h2
        exact Sl.of_own' (enc := encI) (fun _ => rfl) h1
       obtain ⟨b, off, rfl, hbb, c1⟩ := ints_at hir i (by rw [HSL.out]; omega)
       rw [← HSD.out i hlt] at c1
       have hsay1 := says_any T.out.a i (S.getD i 0) (HS3.out i hlt) RA.out.k3 (by rw [RA.out.len]; have := HM3.out; omega) (by rw [RA.out.len]; omega) (by rw [RA.out.said]; exact saidD_fresh k S _ i (by simp)) (by omega) RA.out.bd
       have HSA := hide hsay1
       have HC2 := hide (fun (u : World) (hu : KP w.heap.size wp u) => show u.cell? ⟨b, off + j, none⟩ = some (.int .i64 (S.getD j 0)) from by
        have h1 := hu.own HSO.out (by decide) (by decide)
        have h2 := HSL.out
        have h3 : Ints u (.slice (some ⟨b, off, none⟩) m cs) S := by
         subst h2
         exact Sl.of_own' (enc := encI) (fun _ => rfl) h1
        obtain ⟨b', off', he, -, c2⟩ := ints_at h3 j (by omega)
        cases he
        rw [← HSD.out j hjm] at c2
        exact c2)
       have HRA := hide (RA.out.step i (by have := HM3.out; omega) (by simp) (HS3.out i hlt))
       have HRB := hide (RB.out.step j (by have := HM3.out; omega) (by simp; have := HJ.out; omega) (HS3.out j hjm))
       have HS3J := hide (HS3.out j hjm)
       have HJF := hide (show qb.said (((j % 3 : Nat) : Int), ((j / 3 + 1 : Nat) : Int)) = 0 from by rw [RB.out.said]; exact saidD_fresh k S _ j (by simp; have := HJ.out; omega))
       obtain ⟨x, hx⟩ : ∃ x, S.getD i 0 = x := ⟨_, rfl⟩
       obtain ⟨y, hy⟩ : ∃ y, S.getD j 0 = y := ⟨_, rfl⟩
       rw [hx] at c1 HSA HRA
       rw [hy] at HC2 HRB HS3J
       have HWI := hide hwi
       clear hsay1 hir hx hy hwi
       go_wp2_with fail
       refine HSA.out.mono ?_
       rintro e w7 ⟨rfl, hp, hk⟩
       have T1 := hide (T.out.said hk hp)
       have K1 := hide (KK.out.trans (T.out.kp hk))
       clear hp hk c1 HSA
       have c2 := HC2.out w7 K1.out
       have hjz : (j : Int) < m := by omega
       have HSB := hide (says_any T1.out.b j y HS3J.out RB.out.k3 (by rw [RB.out.len]; have := HM3.out; omega) (by rw [RB.out.len]; omega) HJF.out (by omega) RB.out.bd)
       go_wp2_with fail
       refine HSB.out.mono ?_
       rintro e w8 ⟨rfl, hp, hk⟩
       have T2 := hide (T1.out.swap.said hk hp)
       have K2 := hide (K1.out.trans (T1.out.swap.kp hk))
       clear hp hk c2 HSB
       have hwi := HWI.out
       go_wp2
       go_roundw
       case rel => exact ⟨i + 1, by omega, by go_num, ⟨_, _, by have h := T2.out.swap; rw [show i + 1 + (i + 1) = i + i + 1 + 1 by omega]; exact h, HRA.out.congrD fun t => by simp only [addD]; rw [Bool.eq_iff_iff]; simp; omega, HRB.out.congrD fun t => by have := HJ.out; simp only [addD]; rw [Bool.eq_iff_iff]; simp; omega, K2.out⟩⟩
       case measure => (simp [intOf]) <;> omega
      ·obtain rfl : m = i := by omega
       clear HT5 RA' RB' hlt
       have hLA := RA.out.live (fun j hj => by have := HM3.out; simp; omega)
       have hLB := RB.out.live (fun j hj => by have := HM3.out; simp; omega)
       have HLA := hide hLA
       have HLB := hide hLB
       have HX6 := hide (KK.out.ext HX5.out (Nat.le_refl _))
       have hir : Ints wq (.slice aS m cs) S := by
        have h1 := KK.out.own HSO.out (by decide) (by decide)
        have h2 := HSL.out
        subst h2
        exact Sl.of_own' (enc := encI) (fun _ => rfl) h1
       have HIR := hide hir
       clear hLA hLB hir KK HSO HX5 RA RB
       go_wp2_with fail
       go_loopw [15, 16] (fun v15 v16 wr => ∃ t : Nat, t ≤ k ∧ v16 = .int .i64 t ∧ v15 = .int .i64 (gtN (allB S) t : Nat) ∧ wr = wq) (fun _ i _ => k - (intOf i).toNat)
       case atStart => exact ⟨0, Nat.zero_le _, rfl, rfl, rfl⟩
       case round =>
        obtain ⟨t, htk, rfl, rfl, rfl⟩ := hrel
        by_cases hlt : t < k
        ·have hltz : (t : Int) < k := by omega
         have h3k := HM3.out
         have hwt : IntKind.i64.wrap ((t : Int) + 1) = ((t + 1 : Nat) : Int) := by rw [IntKind.wrap_i64]; omega
         have hw0 : IntKind.i64.wrap (3 * (t : Int)) = ((3 * t : Nat) : Int) := by rw [IntKind.wrap_i64]; omega
         have hw1 : IntKind.i64.wrap (((3 * t : Nat) : Int) + 1) = ((3 * t + 1 : Nat) : Int) := by rw [IntKind.wrap_i64]; omega
         have hw2 : IntKind.i64.wrap (((3 * t : Nat) : Int) + 2) = ((3 * t + 2 : Nat) : Int) := by rw [IntKind.wrap_i64]; omega
         obtain ⟨b, off, rfl, hbb, c0⟩ := ints_at HIR.out (3 * t) (by rw [HSL.out]; omega)
         obtain ⟨b', off', hba, -, c1⟩ := ints_at HIR.out (3 * t + 1) (by rw [HSL.out]; omega)
         cases hba
         obtain ⟨b', off', hba, -, c2⟩ := ints_at HIR.out (3 * t + 2) (by rw [HSL.out]; omega)
         cases hba
         rw [← HSD.out (3 * t) (by omega)] at c0
         rw [← HSD.out (3 * t + 1) (by omega)] at c1
         rw [← HSD.out (3 * t + 2) (by omega)] at c2
         have hg : gtN (allB S) (t + 1) = if S.getD (3 * t) 0 = 1 ∧ S.getD (3 * t + 1) 0 = 1 ∧ S.getD (3 * t + 2) 0 = 1 then t + 1 else gtN (allB S) t := by
          rw [gtN]
          unfold allB
          simp only [Nat.add_sub_cancel, decide_eq_true_eq]
         generalize S.getD (3 * t) 0 = x0 at c0 hg
         generalize S.getD (3 * t + 1) 0 = x1 at c1 hg
         generalize S.getD (3 * t + 2) 0 = x2 at c2 hg
         have l0 : ((3 * t : Nat) : Int) < m := by omega
         have l1 : ((3 * t + 1 : Nat) : Int) < m := by omega
         have l2 : ((3 * t + 2 : Nat) : Int) < m := by omega
         obtain ⟨t0, ht0⟩ : ∃ t0, 3 * t = t0 := ⟨_, rfl⟩
         rw [ht0] at hw0 hw1 hw2 c0 c1 c2 l0 l1 l2
         clear ht0 h3k
         by_cases e0 : x0 = 1
         ·subst e0
          by_cases e1 : x1 = 1
          ·subst e1
           by_cases e2 : x2 = 1
           ·subst e2
            rw [if_pos ⟨rfl, rfl, rfl⟩] at hg
            have HG := hide hg
            clear hg
            go_wp2
            go_roundw
            case rel => exact ⟨t + 1, by omega, by go_num, by rw [HG.out] <;> first | rfl | go_num, by first | rfl | trivial⟩
            case measure => (simp [intOf]) <;> omega
           ·rw [if_neg (fun h => e2 h.2.2)] at hg
            have HG := hide hg
            have d2 : (x2 == 1) = false := by simpa using e2
            clear hg e2
            go_wp2
            go_roundw
            case rel => exact ⟨t + 1, by omega, by go_num, by rw [HG.out] <;> first | rfl | go_num, by first | rfl | trivial⟩
            case measure => (simp [intOf]) <;> omega
          ·rw [if_neg (fun h => e1 h.2.1)] at hg
           have HG := hide hg
           have d1 : (x1 == 1) = false := by simpa using e1
           clear hg e1
           go_wp2
           go_roundw
           case rel => exact ⟨t + 1, by omega, by go_num, by rw [HG.out] <;> first | rfl | go_num, by first | rfl | trivial⟩
           case measure => (simp [intOf]) <;> omega
         ·rw [if_neg (fun h => e0 h.1)] at hg
          have HG := hide hg
          have d0 : (x0 == 1) = false := by simpa using e0
          clear hg e0
          go_wp2
          go_roundw
          case rel => exact ⟨t + 1, by omega, by go_num, by rw [HG.out] <;> first | rfl | go_num, by first | rfl | trivial⟩
          case measure => (simp [intOf]) <;> omega
        ·obtain rfl : k = t := by omega
         have hla : liveN qa = gtN (allB S) k := HLA.out
         have hlb : liveN qb = gtN (allB S) k := HLB.out
         generalize gtN (allB S) k = want at hla hlb ⊢
         have HA := hide hla
         have HBL := hide hlb
         clear hla hlb HLA HLB HIR hlt
         go_wp2_with fail
         refine (live_any T.out.a).mono ?_
         rintro e w9 ⟨rfl, E9⟩
         rw [HA.out]
         have T9 := hide (T.out.ext E9)
         have HX9 := hide (HX6.out.trans E9)
         clear E9 T HX6
         go_wp2_with fail
         refine (live_any T9.out.b).mono ?_
         rintro e w10 ⟨rfl, E10⟩
         rw [HBL.out]
         have HX10 := hide (HX9.out.trans E10)
         clear E10 T9 HX9
         go_wp2_with fail
         refine (lives17_any w10 (HM.out.ext HX10.out)).mono ?_
         rintro e w11 ⟨rfl, E11⟩
         have HZ := hide (HX10.out.trans E11)
         clear E11 HX10
         go_wp2
         go_ret
         exact ⟨rfl, HZ.out⟩
end Go.Proofs.YtnnddjmdpplolaaGreatDoor
