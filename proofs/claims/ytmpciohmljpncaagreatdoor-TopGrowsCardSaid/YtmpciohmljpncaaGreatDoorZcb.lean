/- Merged texts (CfB, CfC, CfD, MpV). -/
import Derived.Test.YtmpciohmljpncaaGreatDoorZca
import Derived.Deep.RegionHeld3
import Derived.Deep.CutBlock
import Derived.Maps.OwnSet
import Derived.Maps.RangeWalk
namespace Go.Proofs.YtmpciohmljpncaaGreatDoor
open Go.ChangeShapes Go.WideShapes Go.ChangeAt Go.RowKit Go.Lib Go.Shelf
theorem partsN_at {m : Int} {P : List (Int × Int)} {i : Nat} (h : i < P.length) (had : List Int) : partsN m (P.drop i) had = if had.contains (1 + (P[i].1 - 1) % m) = true then partsN m (P.drop (i + 1)) had else (1 + (P[i].1 - 1) % m, P[i].2) :: partsN m (P.drop (i + 1)) (had ++ [1 + (P[i].1 - 1) % m]) := by
 rw [List.drop_eq_getElem_cons h]
 rfl
/-- what ref16.rule tells -/
def RuleNP (B : Nat) (m n : Int) (r : RuleD) (w : World) (e : Ending) (w' : World) : Prop := ∃ r', e = .returned r'.val ∧ r'.core = ruleN m n r ∧ RuleOwn B w' r' ∧ Ext w w'
set_option maxRecDepth 100000 in
set_option maxHeartbeats 16000000 in
theorem rule16_any (r : RuleD) (m n : Nat) (B : Nat) (w : World) (hown : RuleOwn B w r) (hB : B ≤ w.heap.size) (hm : 1 ≤ m ∧ m ≤ 4) (hn : n < 1000000) (hPl : r.P.length ≤ 100) (hP : ∀ p ∈ r.P, 1 ≤ p.1 ∧ p.1 ≤ 1000) (hmi : 0 ≤ r.mi ∧ r.mi ≤ 1000) :
  Calls Tryz.prog 11 #[r.val, .int .i64 m, .int .i64 n] w (RuleNP B m n r w) := by
 obtain ⟨dd, hd1, hd2⟩ := Tryz.ruleDesc
 obtain ⟨ii, hii0, hii1, hii2, hii3⟩ := info_partsS Tryz.infoI
 obtain ⟨ip, hip0, hip1, hip2, hip3⟩ := info_partsS Tryz.infoP
 have HPB := hide hP
 have HPL := hide hPl
 have HBB := hide hB
 clear hP hB
 have hok := hown.ok
 have HOWN := hide hown
 obtain ⟨path, ex, hv, H, pv, P, mi, ab, de, ti, pre, sv, S, dv, D, q0, q1, q2, q3, q4, q5, q6, rate⟩ := r
 obtain ⟨hH, hP, hS, hD⟩ := hok
 simp only [RuleD.val] at *
 obtain ⟨_, a1, c1, rfl⟩ := hH.shape
 obtain ⟨_, a2, c2, rfl⟩ := hP.shape
 obtain ⟨_, a3, c3, rfl⟩ := hS.shape
 obtain ⟨_, a4, c4, rfl⟩ := hD.shape
 have HPP := hide hP
 clear hH hP hS hD hown
 have hmz : (1 : Int) ≤ m := by omega
 have hmz4 : (m : Int) ≤ 4 := by omega
 have hm0 : ((m : Int) == 0) = false := beq_eq_false_iff_ne.2 (by omega)
 have hm0' : ¬ (m : Int) = 0 := by omega
 go_enter Tryz.func11, Tryz.ntmps11
 go_upto_region 1 with (fail)
 have hb3 := heap_alloc_new w (.cells #[.string path, .bool ex, .slice a1 H.length c1, .slice a2 P.length c2, .int .i64 mi, .int .i64 ab, .int .i64 de, .int .i64 ti, .string pre, .slice a3 S.length c3, .slice a4 D.length c4, .int .i64 q0, .int .i64 q1, .int .i64 q2, .int .i64 q3, .int .i64 q4, .int .i64 q5, .int .i64 q6, .int .i64 rate] 57)
 have hx3 : Ext w (w.alloc (.cells #[.string path, .bool ex, .slice a1 H.length c1, .slice a2 P.length c2, .int .i64 mi, .int .i64 ab, .int .i64 de, .int .i64 ti, .string pre, .slice a3 S.length c3, .slice a4 D.length c4, .int .i64 q0, .int .i64 q1, .int .i64 q2, .int .i64 q3, .int .i64 q4, .int .i64 q5, .int .i64 q6, .int .i64 rate] 57)) := (Below.refl _ w).alloc (Nat.le_refl _) _
 have hb6 := heap_alloc_new (w.alloc (.cells #[.string path, .bool ex, .slice a1 H.length c1, .slice a2 P.length c2, .int .i64 mi, .int .i64 ab, .int .i64 de, .int .i64 ti, .string pre, .slice a3 S.length c3, .slice a4 D.length c4, .int .i64 q0, .int .i64 q1, .int .i64 q2, .int .i64 q3, .int .i64 q4, .int .i64 q5, .int .i64 q6, .int .i64 rate] 57)) (.cells #[.string ⟨#[]⟩, .bool false, .slice none 0 0, .slice none 0 0, .int .i64 0, .int .i64 0, .int .i64 0, .int .i64 0, .string ⟨#[]⟩, .slice none 0 0, .slice none 0 0, .int .i64 0, .int .i64 0, .int .i64 0, .int .i64 0, .int .i64 0, .int .i64 0, .int .i64 0, .int .i64 0] 57)
 have hx6 : Ext (w.alloc (.cells #[.string path, .bool ex, .slice a1 H.length c1, .slice a2 P.length c2, .int .i64 mi, .int .i64 ab, .int .i64 de, .int .i64 ti, .string pre, .slice a3 S.length c3, .slice a4 D.length c4, .int .i64 q0, .int .i64 q1, .int .i64 q2, .int .i64 q3, .int .i64 q4, .int .i64 q5, .int .i64 q6, .int .i64 rate] 57)) ((w.alloc (.cells #[.string path, .bool ex, .slice a1 H.length c1, .slice a2 P.length c2, .int .i64 mi, .int .i64 ab, .int .i64 de, .int .i64 ti, .string pre, .slice a3 S.length c3, .slice a4 D.length c4, .int .i64 q0, .int .i64 q1, .int .i64 q2, .int .i64 q3, .int .i64 q4, .int .i64 q5, .int .i64 q6, .int .i64 rate] 57)).alloc (.cells #[.string ⟨#[]⟩, .bool false, .slice none 0 0, .slice none 0 0, .int .i64 0, .int .i64 0, .int .i64 0, .int .i64 0, .string ⟨#[]⟩, .slice none 0 0, .slice none 0 0, .int .i64 0, .int .i64 0, .int .i64 0, .int .i64 0, .int .i64 0, .int .i64 0, .int .i64 0, .int .i64 0] 57)) := (Below.refl _ _).alloc (Nat.le_refl _) _
 have hb36 := (hx6.block _ (Array.getElem?_eq_some_iff.1 hb3).1).trans hb3
 have hsz : (w.alloc (.cells #[.string path, .bool ex, .slice a1 H.length c1, .slice a2 P.length c2, .int .i64 mi, .int .i64 ab, .int .i64 de, .int .i64 ti, .string pre, .slice a3 S.length c3, .slice a4 D.length c4, .int .i64 q0, .int .i64 q1, .int .i64 q2, .int .i64 q3, .int .i64 q4, .int .i64 q5, .int .i64 q6, .int .i64 rate] 57)).heap.size = w.heap.size + 1 := by simp
 have hsz2 : ((w.alloc (.cells #[.string path, .bool ex, .slice a1 H.length c1, .slice a2 P.length c2, .int .i64 mi, .int .i64 ab, .int .i64 de, .int .i64 ti, .string pre, .slice a3 S.length c3, .slice a4 D.length c4, .int .i64 q0, .int .i64 q1, .int .i64 q2, .int .i64 q3, .int .i64 q4, .int .i64 q5, .int .i64 q6, .int .i64 rate] 57)).alloc (.cells #[.string ⟨#[]⟩, .bool false, .slice none 0 0, .slice none 0 0, .int .i64 0, .int .i64 0, .int .i64 0, .int .i64 0, .string ⟨#[]⟩, .slice none 0 0, .slice none 0 0, .int .i64 0, .int .i64 0, .int .i64 0, .int .i64 0, .int .i64 0, .int .i64 0, .int .i64 0, .int .i64 0] 57)).heap.size = w.heap.size + 1 + 1 := by simp
 have hEx := hx3.trans hx6
 rw [hsz] at hb6
 generalize (w.alloc (.cells #[.string path, .bool ex, .slice a1 H.length c1, .slice a2 P.length c2, .int .i64 mi, .int .i64 ab, .int .i64 de, .int .i64 ti, .string pre, .slice a3 S.length c3, .slice a4 D.length c4, .int .i64 q0, .int .i64 q1, .int .i64 q2, .int .i64 q3, .int .i64 q4, .int .i64 q5, .int .i64 q6, .int .i64 rate] 57)).alloc (.cells #[.string ⟨#[]⟩, .bool false, .slice none 0 0, .slice none 0 0, .int .i64 0, .int .i64 0, .int .i64 0, .int .i64 0, .string ⟨#[]⟩, .slice none 0 0, .slice none 0 0, .int .i64 0, .int .i64 0, .int .i64 0, .int .i64 0, .int .i64 0, .int .i64 0, .int .i64 0, .int .i64 0] 57) = W2 at *
 have hbox : BoxR W2 w.heap.size (⟨path, ex, .slice a1 H.length c1, H, .slice a2 P.length c2, P, mi, ab, de, ti, pre, .slice a3 S.length c3, S, .slice a4 D.length c4, D, q0, q1, q2, q3, q4, q5, q6, rate⟩ : RuleD) := ⟨_, hb36, rfl⟩
 have HB := hide hbox
 have HEX := hide hEx
 have HB6 := hide hb6
 have HSZ2 := hide hsz2
 clear hb3 hx3 hb6 hx6 hb36 hsz hbox hEx hsz2
 go_wp2_with fail
 go_loopw [7, 8, 9] (fun v7 v8 v9 wr => ∃ (i : Nat) (M : List (Int × Int)) (hd : List Int), v9 = .int .i64 i ∧ i ≤ P.length ∧ M.length ≤ i ∧ hd.length ≤ i ∧ Hid (partsN m P [] = M ++ partsN m (P.drop i) hd) ∧ wr.ownsRow W2.heap.size 60 2 v7 M.length (M.flatMap encP) ∧ wr.ownsRow W2.heap.size 3 1 v8 hd.length (hd.flatMap encI) ∧ Ext W2 wr) (fun _ _ i _ => P.length - (intOf i).toNat)
 case atStart => exact ⟨0, [], [], rfl, by omega, by simp, by simp, (by show _ = _; simp), World.ownsRow_nil _ _ _ _, World.ownsRow_nil _ _ _ _, Below.refl _ _⟩
 case round =>
  obtain ⟨i, M, hd, rfl, hi, hMl, hdl, hpn, hoM, hod, hext⟩ := hrel
  obtain ⟨xa, xc, rfl⟩ := owns_shape hoM
  obtain ⟨ya, yc, rfl⟩ := owns_shape hod
  have HPN := hide hpn.out
  have HOM := hide hoM
  have HOD := hide hod
  have HX := hide hext
  have HML := hide hMl
  have HDL := hide hdl
  clear hpn hoM hod hext hMl hdl
  have hbx := HB.out.keep (HX.out.block _ HB.out.lt)
  have d3 : wr.cell? ⟨w.heap.size, 3, none⟩ = some (.slice a2 P.length c2) := hbx.cellR.2 3 _ rfl
  by_cases hlt : i < P.length
  ·have hltz : (i : Int) < P.length := by omega
   obtain ⟨b, off, rfl, hbb, e1, e2⟩ := parts_at HPP.out i hlt
   have hpb := HPB.out P[i] (List.getElem_mem hlt)
   have hpa := partsN_at (m := m) hlt hd
   obtain ⟨x1, hx1⟩ : ∃ x, P[i].1 = x := ⟨_, rfl⟩
   obtain ⟨x2, hx2⟩ : ∃ x, P[i].2 = x := ⟨_, rfl⟩
   rw [hx1, hx2] at hpa
   rw [hx1] at e1 hpb
   rw [hx2] at e2
   have hEw := HEX.out.trans HX.out
   have e1' := (hEw.cell (p := ⟨b, off + i * 2, none⟩) hbb).trans e1
   have HE2 := hide (show ∀ X, Ext w X → X.cell? ⟨b, off + i * 2 + 1, none⟩ = some (.int .i64 x2) from fun X hX => (hX.cell (p := ⟨b, off + i * 2 + 1, none⟩) hbb).trans e2)
   have t1 : (x1 - 1).tmod m = (x1 - 1) % m := Int.tmod_eq_emod_of_nonneg (by omega)
   have t2 := Int.emod_nonneg (x1 - 1) (show (m : Int) ≠ 0 by omega)
   have t3 := Int.emod_lt_of_pos (x1 - 1) (show (0 : Int) < m by omega)
   have t4 : (x1 - 1) % m ≤ 4 := by omega
   obtain ⟨y, hy⟩ : ∃ y, (x1 - 1) % (m : Int) = y := ⟨_, rfl⟩
   rw [hy] at t1 t2 t3 t4 hpa
   have HPA := hide hpa
   have hin := Sl.of_own' (enc := encI) (fun _ => rfl) HOD.out
   have hhas := has_any hd (1 + y) (.slice ya hd.length yc) wr hin
   obtain ⟨q, hq⟩ : ∃ q, hd.contains (1 + y) = q := ⟨_, rfl⟩
   rw [hq] at hhas
   have HQ := hide hq
   have HHAS := hide hhas
   clear hhas hq hin hpa hy hx1 hx2 e1 e2 hEw t3
   go_wp2_with fail
   refine HHAS.out.mono ?_
   rintro e w5 ⟨rfl, rfl⟩
   cases q with
   | true =>
    have hnx : partsN m P [] = M ++ partsN m (P.drop (i + 1)) hd := by rw [HPN.out, HPA.out, if_pos HQ.out]
    have HNX := hide hnx
    clear hnx
    go_wp2
    go_roundw
    case rel => exact ⟨i + 1, M, hd, by go_num, by omega, by have := HML.out; omega, by have := HDL.out; omega, HNX.out, HOM.out, HOD.out, HX.out⟩
    case measure => simp [intOf] <;> omega
   | false =>
    have hnx : partsN m P [] = (M ++ [(1 + y, x2)]) ++ partsN m (P.drop (i + 1)) (hd ++ [1 + y]) := by
     rw [HPN.out, HPA.out, if_neg (by rw [HQ.out]; simp)]
     simp
    have HNX := hide hnx
    clear hnx HPA HQ t1 e1' d3
    go_upto_region 8 with (fail)
    refine wp_region_lit ?_
    refine wpList_plain rfl fun K hK => ?_
    go_simp
    refine hK _ _ ?_
    refine wpList_plain rfl fun K hK => ?_
    go_simp
    refine hK _ _ ?_
    refine wpList_plain rfl fun K hK => ?_
    go_simp
    refine hK _ _ ?_
    have hxa : Ext wr (wr.alloc (.cells #[.int .i64 (1 + y)] 3)) := (Below.refl _ _).alloc (Nat.le_refl _) _
    refine wpList_append_sl (enc := encI) rfl _ _ _ rfl W2.heap.size 3 ii (.int .i64 0) 1 8 Tryz.underlying22 hii0 hii1 hii2 hii3 rfl (by decide) (fun _ => rfl) (.slice ya hd.length yc) hd.length (hd.flatMap encI) rfl (owns_ext HOD.out hxa) _ rfl [1 + y] (ints_new1 wr (1 + y) _) (fun x _ => encI_one x) (by have := HDL.out; have := HPL.out; unfold maxLen; simp only [List.length_cons, List.length_nil]; omega) (by have := HDL.out; have := HPL.out; simp only [List.length_cons, List.length_nil]; omega) (Nat.le_trans HX.out.size hxa.size) ?_
    intro v7 w7 hown7 hg7
    have hk7 : Keeps (fun q => (Value.slice ya hd.length yc).ownBlock = some q) wr w7 := (Keeps.of_ext hxa).trans (Keeps.of_grown hg7 (fun q h => h))
    have hE7 : Ext W2 w7 := Keeps.ext HX.out hk7 (fun q hq => (HOD.out.lt q hq).1)
    have hown8 : w7.ownsRow W2.heap.size 3 1 v7 (hd ++ [1 + y]).length ((hd ++ [1 + y]).flatMap encI) := by simpa using hown7
    have hom7 := owns_keeps HOM.out hk7 (fun g h1 h2 => owns_ne HOM.out HOD.out (by decide) g h1 h2)
    obtain ⟨ya2, yc2, rfl⟩ := owns_shape hown8
    have HOD8 := hide hown8
    have HOM7 := hide hom7
    have HE7 := hide hE7
    clear hown8 hom7 hE7 hk7 hown7 hg7 hxa HOM HOD HX
    refine wpList_plain rfl fun K hK => ?_
    go_simp
    refine hK _ _ ?_
    refine wpList_nil ?_
    have hbx7 := HB.out.keep (HE7.out.block _ HB.out.lt)
    have d3 : w7.cell? ⟨w.heap.size, 3, none⟩ = some (.slice (some ⟨b, off, none⟩) P.length c2) := hbx7.cellR.2 3 _ rfl
    have e2' := HE2.out _ (HEX.out.trans HE7.out)
    clear hbx7
    go_upto_region 9 with (fail)
    refine wp_region_lit ?_
    refine wpList_plain rfl fun K hK => ?_
    go_simp
    refine hK _ _ ?_
    refine wpList_plain rfl fun K hK => ?_
    go_simp
    refine hK _ _ ?_
    refine wpList_plain rfl fun K hK => ?_
    go_simp
    refine hK _ _ ?_
    refine wpList_plain rfl fun K hK => ?_
    go_simp
    refine hK _ _ ?_
    refine wpList_plain rfl fun K hK => ?_
    go_simp
    refine hK _ _ ?_
    refine wpList_plain rfl fun K hK => ?_
    go_simp
    refine hK _ _ ?_
    refine wpList_plain rfl fun K hK => ?_
    go_simp
    refine hK _ _ ?_
    refine wpList_plain rfl fun K hK => ?_
    go_simp
    refine hK _ _ ?_
    refine wpList_plain rfl fun K hK => ?_
    go_simp
    refine hK _ _ ?_
    refine wpList_plain rfl fun K hK => ?_
    go_simp
    refine hK _ _ ?_
    have hxb : Ext w7 (w7.alloc (.cells #[.int .i64 (1 + y), .int .i64 x2] 60)) := (Below.refl _ _).alloc (Nat.le_refl _) _
    refine wpList_append_sl (enc := encP) rfl _ _ _ rfl W2.heap.size 60 ip _ 2 16 Tryz.underlying49 hip0 hip1 hip2 hip3 rfl (by decide) (fun _ => rfl) (.slice xa M.length xc) M.length (M.flatMap encP) rfl (owns_ext HOM7.out hxb) _ rfl [(1 + y, x2)] (parts_new1 w7 (1 + y) x2 _) (fun x _ => encP_one x) (by have := HML.out; have := HPL.out; unfold maxLen; simp only [List.length_cons, List.length_nil]; omega) (by have := HML.out; have := HPL.out; simp only [List.length_cons, List.length_nil]; omega) (Nat.le_trans HE7.out.size hxb.size) ?_
    intro v9 w9 hown9 hg9
    have hk9 : Keeps (fun q => (Value.slice xa M.length xc).ownBlock = some q) w7 w9 := (Keeps.of_ext hxb).trans (Keeps.of_grown hg9 (fun q h => h))
    have hE9 : Ext W2 w9 := Keeps.ext HE7.out hk9 (fun q hq => (HOM7.out.lt q hq).1)
    have hown10 : w9.ownsRow W2.heap.size 60 2 v9 (M ++ [(1 + y, x2)]).length ((M ++ [(1 + y, x2)]).flatMap encP) := by simpa using hown9
    have hod9 := owns_keeps HOD8.out hk9 (fun g h1 h2 => owns_ne HOD8.out HOM7.out (by decide) g h1 h2)
    have HOM9 := hide hown10
    have HOD9 := hide hod9
    have HE9 := hide hE9
    clear hown10 hod9 hE9 hk9 hown9 hg9 hxb HOM7 HOD8 HE7 d3 e2'
    refine wpList_plain rfl fun K hK => ?_
    go_simp
    refine hK _ _ ?_
    refine wpList_nil ?_
    go_wp2
    go_roundw
    case rel => exact ⟨i + 1, M ++ [(1 + y, x2)], hd ++ [1 + y], by go_num, by omega, by have := HML.out; simp; omega, by have := HDL.out; simp; omega, HNX.out, (by have h := HOM9.out; rw [List.length_append] at h ⊢; exact h), (by have h := HOD9.out; rw [List.length_append] at h ⊢; exact h), HE9.out⟩
    case measure => simp [intOf] <;> omega
  ·obtain rfl : i = P.length := by omega
   have hM : partsN m P [] = M := by rw [HPN.out, List.drop_length]; simp [partsN]
   have HMM := hide hM
   have z3 := hbx.frozen 3
   have d4 : wr.cell? ⟨w.heap.size, 4, none⟩ = some (.int .i64 mi) := hbx.cellR.2 4 _ rfl
   have z4 := hbx.frozen 4
   have d18 : wr.cell? ⟨w.heap.size, 18, none⟩ = some (.int .i64 rate) := hbx.cellR.2 18 _ rfl
   have z18 := hbx.frozen 18
   have HBX := hide hbx
   have tn1 : (n : Int).tmod 4 = (n : Int) % 4 := Int.tmod_eq_emod_of_nonneg (by omega)
   have tn2 : ((n : Int) % 4).tdiv 3 = (n : Int) % 4 / 3 := Int.tdiv_eq_ediv_of_nonneg (by omega)
   have hnz : (n : Int) < 1000000 := by omega
   clear hM hbx HPN HPP HPB HB
   by_cases hmp : 0 < mi
   ·have t1 : (mi - 1).tmod m = (mi - 1) % m := Int.tmod_eq_emod_of_nonneg (by omega)
    have t2 := Int.emod_nonneg (mi - 1) (show (m : Int) ≠ 0 by omega)
    have t3 : (mi - 1) % m ≤ 4 := by have := Int.emod_lt_of_pos (mi - 1) (show (0 : Int) < m by omega); omega
    go_upto_region 14 with (fail)
    have hset := ((HBX.out.set (r' := (⟨path, ex, .slice a1 H.length c1, H, .slice xa M.length xc, M, mi, ab, de, ti, pre, .slice a3 S.length c3, S, .slice a4 D.length c4, D, q0, q1, q2, q3, q4, q5, q6, rate⟩ : RuleD)) 3 (.slice xa M.length xc) rfl).set (r' := (⟨path, ex, .slice a1 H.length c1, H, .slice xa M.length xc, M, (1 + (mi - 1) % (m : Int)), ab, de, ti, pre, .slice a3 S.length c3, S, .slice a4 D.length c4, D, q0, q1, q2, q3, q4, q5, q6, rate⟩ : RuleD)) 4 (.int .i64 (1 + (mi - 1) % (m : Int))) rfl).set (r' := (⟨path, ex, .slice a1 H.length c1, H, .slice xa M.length xc, M, (1 + (mi - 1) % (m : Int)), ab, de, ti, pre, .slice a3 S.length c3, S, .slice a4 D.length c4, D, q0, q1, q2, q3, q4, q5, q6, ((n : Int) % 4 / 3)⟩ : RuleD)) 18 (.int .i64 ((n : Int) % 4 / 3)) rfl
    have hk : Keeps (fun g => g = w.heap.size) wr (((wr.setCell ⟨w.heap.size, 3, none⟩ (.slice xa M.length xc)).setCell ⟨w.heap.size, 4, none⟩ (.int .i64 (1 + (mi - 1) % (m : Int)))).setCell ⟨w.heap.size, 18, none⟩ (.int .i64 ((n : Int) % 4 / 3))) := ((Keeps.of_set (X := fun g => g = w.heap.size) wr w.heap.size 3 (.slice xa M.length xc) rfl).trans (Keeps.of_set (X := fun g => g = w.heap.size) _ w.heap.size 4 _ rfl)).trans (Keeps.of_set (X := fun g => g = w.heap.size) _ w.heap.size 18 _ rfl)
    have hE := Keeps.ext (HEX.out.trans HX.out) hk (fun g hg => by omega)
    have hl6 := (Array.getElem?_eq_some_iff.1 HB6.out).1
    have h6 := (hk.block (w.heap.size + 1) (Nat.lt_of_lt_of_le hl6 HX.out.size) (by omega)).trans ((HX.out.block (w.heap.size + 1) hl6).trans HB6.out)
    have hcr : ((⟨path, ex, .slice a1 H.length c1, H, .slice xa M.length xc, M, (1 + (mi - 1) % (m : Int)), ab, de, ti, pre, .slice a3 S.length c3, S, .slice a4 D.length c4, D, q0, q1, q2, q3, q4, q5, q6, ((n : Int) % 4 / 3)⟩ : RuleD)).core = ruleN m n (⟨path, ex, .slice a1 H.length c1, H, .slice a2 P.length c2, P, mi, ab, de, ti, pre, .slice a3 S.length c3, S, .slice a4 D.length c4, D, q0, q1, q2, q3, q4, q5, q6, rate⟩ : RuleD) := by simp only [ruleN, RuleD.core, HMM.out, if_pos hmp]
    have howf : ∀ X, Keeps (fun g => g = w.heap.size + 1) (((wr.setCell ⟨w.heap.size, 3, none⟩ (.slice xa M.length xc)).setCell ⟨w.heap.size, 4, none⟩ (.int .i64 (1 + (mi - 1) % (m : Int)))).setCell ⟨w.heap.size, 18, none⟩ (.int .i64 ((n : Int) % 4 / 3))) X → RuleOwn B X (⟨path, ex, .slice a1 H.length c1, H, .slice xa M.length xc, M, (1 + (mi - 1) % (m : Int)), ab, de, ti, pre, .slice a3 S.length c3, S, .slice a4 D.length c4, D, q0, q1, q2, q3, q4, q5, q6, ((n : Int) % 4 / 3)⟩ : RuleD) := fun X hKX => by
     have hEX := Keeps.ext hE hKX (fun g hg => by omega)
     have hkk : Keeps (fun g => g = w.heap.size ∨ g = w.heap.size + 1) wr X := (hk.mono (fun g h => .inl h)).trans (hKX.mono (fun g h => .inr h))
     have hs2 := HSZ2.out
     have hbb := HBB.out
     exact ⟨owns_ext HOWN.out.1 hEX, owns_le (owns_keeps HOM.out hkk (fun g hg e => by have := (HOM.out.lt g hg).1; omega)) (by omega), owns_ext HOWN.out.2.2.1 hEX, owns_ext HOWN.out.2.2.2 hEX⟩
    generalize (⟨path, ex, .slice a1 H.length c1, H, .slice xa M.length xc, M, (1 + (mi - 1) % (m : Int)), ab, de, ti, pre, .slice a3 S.length c3, S, .slice a4 D.length c4, D, q0, q1, q2, q3, q4, q5, q6, ((n : Int) % 4 / 3)⟩ : RuleD) = r9 at hset hcr howf
    generalize ((wr.setCell ⟨w.heap.size, 3, none⟩ (.slice xa M.length xc)).setCell ⟨w.heap.size, 4, none⟩ (.int .i64 (1 + (mi - 1) % (m : Int)))).setCell ⟨w.heap.size, 18, none⟩ (.int .i64 ((n : Int) % 4 / 3)) = W9 at hset hk hE h6 howf ⊢
    have HCR := hide hcr
    have HOWF := hide howf
    have HE9 := hide hE
    clear hcr howf hE hk
    refine wp_region_lit ?_
    refine wpList_load_mid rfl 57 (.tmp 3) rfl w.heap.size 0 rfl (encR r9) dd (fun j v hv => by rw [Nat.zero_add]; exact hset.cellR.2 j v hv) hd1 hd2 Tryz.ruleSize ?_
    have hth : W9.there (w.heap.size + 1) 0 (encR r9).toArray.size := fun j hj => by
     have hj' : j < 19 := hj
     rw [Nat.zero_add]
     refine ⟨?_, by simp [World.frozen?, h6]⟩
     simp only [World.cell?, h6]
     simp [hj']
    refine wpList_store_mid rfl 57 (.tmp 6) (.tmp 63) rfl (w.heap.size + 1) 0 (encR r9).toArray rfl rfl hth Tryz.ruleSize (all_oneCell_toArray (encR_one' r9 (HOWF.out _ (Keeps.refl _ _)).ok)) ?_
    refine wpList_nil ?_
    have hrs := World.rangeAt_setCells_same W9 (w.heap.size + 1) 0 (encR r9) hth
    have hk5 := keeps_setCells (w.heap.size + 1) (encR r9) 0 W9
    show Exit.then _ _ _ _ (W9.setCells (w.heap.size + 1) 0 (encR r9))
    generalize W9.setCells (w.heap.size + 1) 0 (encR r9) = W10 at hrs hk5 ⊢
    have HEF := hide (Keeps.ext HE9.out hk5 (fun g hg => by omega))
    have HOF := hide (HOWF.out _ hk5)
    have HRG := hide hrs
    clear hrs hk5 hth h6 hset
    simp only [Act.put]
    go_wp2_with (fail)
    (try simp only [Exit.inBlock, Exit.then])
    refine bodyPost_ret (results_cell_mid rfl _ _ (w.heap.size + 1) 0 (encR r9) dd rfl HRG.out hd1 hd2 Tryz.ruleSize) rfl ?_
    exact ⟨r9, rfl, HCR.out, HOF.out, HEF.out⟩
   ·go_upto_region 14 with (fail)
    have hset := (HBX.out.set (r' := (⟨path, ex, .slice a1 H.length c1, H, .slice xa M.length xc, M, mi, ab, de, ti, pre, .slice a3 S.length c3, S, .slice a4 D.length c4, D, q0, q1, q2, q3, q4, q5, q6, rate⟩ : RuleD)) 3 (.slice xa M.length xc) rfl).set (r' := (⟨path, ex, .slice a1 H.length c1, H, .slice xa M.length xc, M, mi, ab, de, ti, pre, .slice a3 S.length c3, S, .slice a4 D.length c4, D, q0, q1, q2, q3, q4, q5, q6, ((n : Int) % 4 / 3)⟩ : RuleD)) 18 (.int .i64 ((n : Int) % 4 / 3)) rfl
    have hk : Keeps (fun g => g = w.heap.size) wr ((wr.setCell ⟨w.heap.size, 3, none⟩ (.slice xa M.length xc)).setCell ⟨w.heap.size, 18, none⟩ (.int .i64 ((n : Int) % 4 / 3))) := (Keeps.of_set (X := fun g => g = w.heap.size) wr w.heap.size 3 (.slice xa M.length xc) rfl).trans (Keeps.of_set (X := fun g => g = w.heap.size) _ w.heap.size 18 _ rfl)
    have hE := Keeps.ext (HEX.out.trans HX.out) hk (fun g hg => by omega)
    have hl6 := (Array.getElem?_eq_some_iff.1 HB6.out).1
    have h6 := (hk.block (w.heap.size + 1) (Nat.lt_of_lt_of_le hl6 HX.out.size) (by omega)).trans ((HX.out.block (w.heap.size + 1) hl6).trans HB6.out)
    have hcr : ((⟨path, ex, .slice a1 H.length c1, H, .slice xa M.length xc, M, mi, ab, de, ti, pre, .slice a3 S.length c3, S, .slice a4 D.length c4, D, q0, q1, q2, q3, q4, q5, q6, ((n : Int) % 4 / 3)⟩ : RuleD)).core = ruleN m n (⟨path, ex, .slice a1 H.length c1, H, .slice a2 P.length c2, P, mi, ab, de, ti, pre, .slice a3 S.length c3, S, .slice a4 D.length c4, D, q0, q1, q2, q3, q4, q5, q6, rate⟩ : RuleD) := by simp only [ruleN, RuleD.core, HMM.out, if_neg hmp]
    have howf : ∀ X, Keeps (fun g => g = w.heap.size + 1) ((wr.setCell ⟨w.heap.size, 3, none⟩ (.slice xa M.length xc)).setCell ⟨w.heap.size, 18, none⟩ (.int .i64 ((n : Int) % 4 / 3))) X → RuleOwn B X (⟨path, ex, .slice a1 H.length c1, H, .slice xa M.length xc, M, mi, ab, de, ti, pre, .slice a3 S.length c3, S, .slice a4 D.length c4, D, q0, q1, q2, q3, q4, q5, q6, ((n : Int) % 4 / 3)⟩ : RuleD) := fun X hKX => by
     have hEX := Keeps.ext hE hKX (fun g hg => by omega)
     have hkk : Keeps (fun g => g = w.heap.size ∨ g = w.heap.size + 1) wr X := (hk.mono (fun g h => .inl h)).trans (hKX.mono (fun g h => .inr h))
     have hs2 := HSZ2.out
     have hbb := HBB.out
     exact ⟨owns_ext HOWN.out.1 hEX, owns_le (owns_keeps HOM.out hkk (fun g hg e => by have := (HOM.out.lt g hg).1; omega)) (by omega), owns_ext HOWN.out.2.2.1 hEX, owns_ext HOWN.out.2.2.2 hEX⟩
    generalize (⟨path, ex, .slice a1 H.length c1, H, .slice xa M.length xc, M, mi, ab, de, ti, pre, .slice a3 S.length c3, S, .slice a4 D.length c4, D, q0, q1, q2, q3, q4, q5, q6, ((n : Int) % 4 / 3)⟩ : RuleD) = r9 at hset hcr howf
    generalize (wr.setCell ⟨w.heap.size, 3, none⟩ (.slice xa M.length xc)).setCell ⟨w.heap.size, 18, none⟩ (.int .i64 ((n : Int) % 4 / 3)) = W9 at hset hk hE h6 howf ⊢
    have HCR := hide hcr
    have HOWF := hide howf
    have HE9 := hide hE
    clear hcr howf hE hk
    refine wp_region_lit ?_
    refine wpList_load_mid rfl 57 (.tmp 3) rfl w.heap.size 0 rfl (encR r9) dd (fun j v hv => by rw [Nat.zero_add]; exact hset.cellR.2 j v hv) hd1 hd2 Tryz.ruleSize ?_
    have hth : W9.there (w.heap.size + 1) 0 (encR r9).toArray.size := fun j hj => by
     have hj' : j < 19 := hj
     rw [Nat.zero_add]
     refine ⟨?_, by simp [World.frozen?, h6]⟩
     simp only [World.cell?, h6]
     simp [hj']
    refine wpList_store_mid rfl 57 (.tmp 6) (.tmp 63) rfl (w.heap.size + 1) 0 (encR r9).toArray rfl rfl hth Tryz.ruleSize (all_oneCell_toArray (encR_one' r9 (HOWF.out _ (Keeps.refl _ _)).ok)) ?_
    refine wpList_nil ?_
    have hrs := World.rangeAt_setCells_same W9 (w.heap.size + 1) 0 (encR r9) hth
    have hk5 := keeps_setCells (w.heap.size + 1) (encR r9) 0 W9
    show Exit.then _ _ _ _ (W9.setCells (w.heap.size + 1) 0 (encR r9))
    generalize W9.setCells (w.heap.size + 1) 0 (encR r9) = W10 at hrs hk5 ⊢
    have HEF := hide (Keeps.ext HE9.out hk5 (fun g hg => by omega))
    have HOF := hide (HOWF.out _ hk5)
    have HRG := hide hrs
    clear hrs hk5 hth h6 hset
    simp only [Act.put]
    go_wp2_with (fail)
    (try simp only [Exit.inBlock, Exit.then])
    refine bodyPost_ret (results_cell_mid rfl _ _ (w.heap.size + 1) 0 (encR r9) dd rfl HRG.out hd1 hd2 Tryz.ruleSize) rfl ?_
    exact ⟨r9, rfl, HCR.out, HOF.out, HEF.out⟩
end Go.Proofs.YtmpciohmljpncaaGreatDoor
namespace Go.Proofs.YtmpciohmljpncaaGreatDoor
open Go.ChangeShapes Go.WideShapes Go.ChangeAt Go.RowKit Go.Lib Go.Shelf
/-- the rows of a configuration are the call's own, in blocks from B on -/
structure ConfOwn (B : Nat) (w : World) (c : ConfD) : Prop where
 s : w.ownsRow B 35 7 c.sv c.S.length (c.S.flatMap encV)
 k : ∀ s ∈ c.S, w.ownsRow B 9 1 s.kv s.K.length (s.K.flatMap encS)
 e : w.ownsRow B 41 3 c.ev c.E.length (c.E.flatMap encE)
 r : w.ownsRow B 57 19 c.rv c.R.length (c.R.flatMap encR)
 rr : ∀ r ∈ c.R, RuleOwn B w r
 t : w.ownsRow B 43 3 c.tv c.T.length (c.T.flatMap encT)
theorem ConfOwn.ok {B : Nat} {w : World} {c : ConfD} (h : ConfOwn B w c) : ConfOk w c :=
 ⟨Sl.of_own' encV_len h.s, fun s hs => Sl.of_own' (enc := encS) (fun _ => rfl) (h.k s hs), Sl.of_own' encE_len h.e, Sl.of_own' encR_len h.r, fun r hr => (h.rr r hr).ok, Sl.of_own' encT_len h.t⟩
theorem ConfOwn.ext {B : Nat} {w w' : World} {c : ConfD} (h : ConfOwn B w c) (e : Ext w w') : ConfOwn B w' c :=
 ⟨owns_ext h.s e, fun s hs => owns_ext (h.k s hs) e, owns_ext h.e e, owns_ext h.r e, fun r hr => (h.rr r hr).ext e, owns_ext h.t e⟩
/-- blocks of one type -/
def OfT (w : World) (X : Nat → Prop) (T : TypeId) : Prop := ∀ g, X g → ∃ cs f, w.heap[g]? = some (.cells cs T f)
theorem owns_keepT {X : Nat → Prop} {w w' : World} {base : Nat} {e T : TypeId} {size : Nat} {v : Value} {n : Nat} {xs : List Value} (h : w.ownsRow base e size v n xs) (k : Keeps X w w') (hX : OfT w X T) (hne : T ≠ e) : w'.ownsRow base e size v n xs :=
 owns_keeps h k fun g hg hx => by
  obtain ⟨cs, f, hc⟩ := hX g hx
  exact hne (owns_type h hg hc)
theorem OfT.own {w : World} {B size n : Nat} {T : TypeId} {v : Value} {xs : List Value} (h : w.ownsRow B T size v n xs) : OfT w (fun g => v.ownBlock = some g) T := fun g hg => by
 obtain ⟨cs, fz, hc⟩ := ownsRow_kind h g hg
 exact ⟨cs, fz, hc⟩
theorem OfT.one {w : World} {b : Nat} {T : TypeId} {cs : Array Value} {f : Nat × Nat} (h : w.heap[b]? = some (.cells cs T f)) : OfT w (fun g => g = b) T := fun g hg => by subst hg; exact ⟨cs, f, h⟩
theorem RuleOwn.keepT {X : Nat → Prop} {B : Nat} {w w' : World} {r : RuleD} {T : TypeId} (h : RuleOwn B w r) (k : Keeps X w w') (hX : OfT w X T) (h1 : T ≠ 169) (h2 : T ≠ 60) (h3 : T ≠ 9) : RuleOwn B w' r :=
 ⟨owns_keepT h.1 k hX h1, owns_keepT h.2.1 k hX h2, owns_keepT h.2.2.1 k hX h1, owns_keepT h.2.2.2 k hX h3⟩
/-- a store into a block of another type turns no row -/
theorem ConfOwn.keepT {X : Nat → Prop} {B : Nat} {w w' : World} {c : ConfD} {T : TypeId} (h : ConfOwn B w c) (k : Keeps X w w') (hX : OfT w X T) (h1 : T ≠ 35) (h2 : T ≠ 9) (h3 : T ≠ 41) (h4 : T ≠ 57) (h5 : T ≠ 43) (h6 : T ≠ 169) (h7 : T ≠ 60) : ConfOwn B w' c :=
 ⟨owns_keepT h.s k hX h1, fun s hs => owns_keepT (h.k s hs) k hX h2, owns_keepT h.e k hX h3, owns_keepT h.r k hX h4, fun r hr => (h.rr r hr).keepT k hX h6 h7 h2, owns_keepT h.t k hX h5⟩
/-- a configuration in a block of its own -/
def BoxC (w : World) (b : Nat) (c : ConfD) : Prop := w.heap[b]? = some (.cells (encC c).toArray 30 (0, 0))
theorem BoxC.lt {w : World} {b : Nat} {c : ConfD} (h : BoxC w b c) : b < w.heap.size := (Array.getElem?_eq_some_iff.1 h).1
theorem BoxC.keep {w w' : World} {b : Nat} {c : ConfD} (h : BoxC w b c) (e : w'.heap[b]? = w.heap[b]?) : BoxC w' b c := e.trans h
theorem BoxC.ext {w w' : World} {b : Nat} {c : ConfD} (h : BoxC w b c) (e : Ext w w') : BoxC w' b c := (e.block b h.lt).trans h
theorem BoxC.cell {w : World} {b : Nat} {c : ConfD} (h : BoxC w b c) (j : Nat) (u : Value) (hu : (encC c)[j]? = some u) : w.cell? ⟨b, j, none⟩ = some u := ArrB.cell h j u (by simpa using hu)
theorem BoxC.frozen {w : World} {b : Nat} {c : ConfD} (h : BoxC w b c) (j : Nat) : w.frozen? ⟨b, j, none⟩ = false := ArrB.frozen h j
theorem BoxC.range {w : World} {b : Nat} {c : ConfD} (h : BoxC w b c) : w.rangeAt b 0 (encC c) := fun j v hv => by rw [Nat.zero_add]; exact h.cell j v hv
theorem BoxC.set {w : World} {b : Nat} {c c' : ConfD} (h : BoxC w b c) (j : Nat) (v : Value) (he : encC c' = (encC c).set j v) : BoxC (w.setCell ⟨b, j, none⟩ v) b c' := by
 have := ArrB.set h j v
 unfold BoxC
 rw [he]
 simpa using this
theorem BoxC.of {w : World} {b : Nat} {c : ConfD} {l : List Value} (h : w.heap[b]? = some (.cells l.toArray 30 (0, 0))) (e : l = encC c) : BoxC w b c := by subst e; exact h
theorem BoxC.of_range {w : World} {b : Nat} {c : ConfD} {cs : Array Value} (h : w.heap[b]? = some (.cells cs 30 (0, 0))) (hs : cs.size = 20) (hr : w.rangeAt b 0 (encC c)) : BoxC w b c := by
 have e : cs = (encC c).toArray := by
  apply Array.ext_getElem?
  intro j
  by_cases hj : j < 20
  ·have := hr j (encC c)[j] (List.getElem?_eq_getElem hj)
   rw [Nat.zero_add] at this
   simp only [World.cell?, h] at this
   exact (by simpa using this : cs[j]? = some (encC c)[j]).trans (Array.getElem?_eq_getElem (show j < (encC c).toArray.size from hj)).symm
  ·rw [Array.getElem?_eq_none (by omega), Array.getElem?_eq_none (by show 20 ≤ j; omega)]
 unfold BoxC
 rw [← e]
 exact h
/-- a configuration that is being made: the result's box b2, its own box b5 -/
structure CS (w0 w : World) (b2 b5 : Nat) (c : ConfD) : Prop where
 ext : Ext w0 w
 box : BoxC w b5 c
 own : ConfOwn w0.heap.size w c
 bx2 : ∃ cs : Array Value, w.heap[b2]? = some (.cells cs 30 (0, 0)) ∧ cs.size = 20
 ge5 : w0.heap.size ≤ b5
 ge2 : w0.heap.size ≤ b2
 ne : b2 ≠ b5
theorem CS.keep {w0 w w' : World} {b2 b5 : Nat} {c : ConfD} (h : CS w0 w b2 b5 c) (e : Ext w w') : CS w0 w' b2 b5 c := by
 obtain ⟨cs, h1, h2⟩ := h.bx2
 exact ⟨Ext.trans h.ext e, h.box.ext e, h.own.ext e, ⟨cs, (e.block _ (Array.getElem?_eq_some_iff.1 h1).1).trans h1, h2⟩, h.ge5, h.ge2, h.ne⟩
/-- one number of it is turned -/
theorem CS.set {w0 w : World} {b2 b5 : Nat} {c : ConfD} (h : CS w0 w b2 b5 c) (j : Nat) (v : Value) (c' : ConfD) (he : encC c' = (encC c).set j v) (ho : ConfOwn w0.heap.size w c') : CS w0 (w.setCell ⟨b5, j, none⟩ v) b2 b5 c' := by
 obtain ⟨cs, h1, h2⟩ := h.bx2
 have hk := Keeps.of_set (X := fun g => g = b5) w b5 j v rfl
 exact ⟨Keeps.ext h.ext hk (fun g hg => by have := h.ge5; omega), h.box.set j v he, ho.keepT hk (OfT.one h.box) (by decide) (by decide) (by decide) (by decide) (by decide) (by decide) (by decide),
  ⟨cs, (hk.block _ (Array.getElem?_eq_some_iff.1 h1).1 h.ne).trans h1, h2⟩, h.ge5, h.ge2, h.ne⟩
/-- some rows were written, none of them a box -/
theorem CS.mid {w0 w w1 : World} {b2 b5 : Nat} {c c' : ConfD} {X : Nat → Prop} {T : TypeId} (h : CS w0 w b2 b5 c) (hk : Keeps X w w1) (hX : OfT w X T) (hT : T ≠ 30) (hXB : ∀ g, X g → w0.heap.size ≤ g) (ho : ConfOwn w0.heap.size w1 c') (j : Nat) (v : Value) (he : encC c' = (encC c).set j v) : CS w0 (w1.setCell ⟨b5, j, none⟩ v) b2 b5 c' := by
 obtain ⟨cs, h1, h2⟩ := h.bx2
 have n5 : ¬ X b5 := fun hx => by
  obtain ⟨c1, f1, e1⟩ := hX b5 hx
  rw [h.box] at e1
  cases e1
  exact hT rfl
 have n2 : ¬ X b2 := fun hx => by
  obtain ⟨c1, f1, e1⟩ := hX b2 hx
  rw [h1] at e1
  cases e1
  exact hT rfl
 have hb := h.box.keep (hk.block _ h.box.lt n5)
 have h11 := (hk.block _ (Array.getElem?_eq_some_iff.1 h1).1 n2).trans h1
 have hs := Keeps.of_set (X := fun g => g = b5) w1 b5 j v rfl
 exact ⟨Keeps.ext (Keeps.ext h.ext hk hXB) hs (fun g hg => by have := h.ge5; omega), hb.set j v he, ho.keepT hs (OfT.one hb) (by decide) (by decide) (by decide) (by decide) (by decide) (by decide) (by decide),
  ⟨cs, (hs.block _ (Array.getElem?_eq_some_iff.1 h11).1 h.ne).trans h11, h2⟩, h.ge5, h.ge2, h.ne⟩
/-- one service more -/
theorem CS.addS {w0 w w1 : World} {b2 b5 : Nat} {c : ConfD} {s : SvcD} {u : Value} (h : CS w0 w b2 b5 c) (hk : Keeps (fun g => c.sv.ownBlock = some g) w w1) (hu : w1.ownsRow w0.heap.size 35 7 u (c.S.length + 1) (c.S.flatMap encV ++ [s].flatMap encV)) (hs : w.ownsRow w0.heap.size 9 1 s.kv s.K.length (s.K.flatMap encS)) :
  CS w0 (w1.setCell ⟨b5, 0, none⟩ u) b2 b5 { c with sv := u, S := c.S ++ [s] } := by
 have hX : OfT w (fun g => c.sv.ownBlock = some g) 35 := OfT.own h.own.s
 refine h.mid (c' := { c with sv := u, S := c.S ++ [s] }) hk hX (by decide) (fun g hg => (h.own.s.lt g hg).1) ⟨?_, ?_, owns_keepT h.own.e hk hX (by decide), owns_keepT h.own.r hk hX (by decide), fun r hr => (h.own.rr r hr).keepT hk hX (by decide) (by decide) (by decide), owns_keepT h.own.t hk hX (by decide)⟩ 0 u rfl
 ·simpa using hu
 ·intro x hx
  rcases List.mem_append.1 hx with hx | hx
  ·exact owns_keepT (h.own.k x hx) hk hX (by decide)
  ·rw [List.mem_singleton.1 hx]
   exact owns_keepT hs hk hX (by decide)
/-- one endpoint more -/
theorem CS.addE {w0 w w1 : World} {b2 b5 : Nat} {c : ConfD} {s : EndD} {u : Value} (h : CS w0 w b2 b5 c) (hk : Keeps (fun g => c.ev.ownBlock = some g) w w1) (hu : w1.ownsRow w0.heap.size 41 3 u (c.E.length + 1) (c.E.flatMap encE ++ [s].flatMap encE)) :
  CS w0 (w1.setCell ⟨b5, 1, none⟩ u) b2 b5 { c with ev := u, E := c.E ++ [s] } := by
 have hX : OfT w (fun g => c.ev.ownBlock = some g) 41 := OfT.own h.own.e
 refine h.mid (c' := { c with ev := u, E := c.E ++ [s] }) hk hX (by decide) (fun g hg => (h.own.e.lt g hg).1) ⟨owns_keepT h.own.s hk hX (by decide), fun x hx => owns_keepT (h.own.k x hx) hk hX (by decide), ?_, owns_keepT h.own.r hk hX (by decide), fun r hr => (h.own.rr r hr).keepT hk hX (by decide) (by decide) (by decide), owns_keepT h.own.t hk hX (by decide)⟩ 1 u rfl
 simpa using hu
/-- one rule more -/
theorem CS.addR {w0 w w1 : World} {b2 b5 : Nat} {c : ConfD} {s : RuleD} {u : Value} (h : CS w0 w b2 b5 c) (hk : Keeps (fun g => c.rv.ownBlock = some g) w w1) (hu : w1.ownsRow w0.heap.size 57 19 u (c.R.length + 1) (c.R.flatMap encR ++ [s].flatMap encR)) (hs : RuleOwn w0.heap.size w s) :
  CS w0 (w1.setCell ⟨b5, 2, none⟩ u) b2 b5 { c with rv := u, R := c.R ++ [s] } := by
 have hX : OfT w (fun g => c.rv.ownBlock = some g) 57 := OfT.own h.own.r
 refine h.mid (c' := { c with rv := u, R := c.R ++ [s] }) hk hX (by decide) (fun g hg => (h.own.r.lt g hg).1) ⟨owns_keepT h.own.s hk hX (by decide), fun x hx => owns_keepT (h.own.k x hx) hk hX (by decide), owns_keepT h.own.e hk hX (by decide), ?_, ?_, owns_keepT h.own.t hk hX (by decide)⟩ 2 u rfl
 ·simpa using hu
 ·intro x hx
  rcases List.mem_append.1 hx with hx | hx
  ·exact (h.own.rr x hx).keepT hk hX (by decide) (by decide) (by decide)
  ·rw [List.mem_singleton.1 hx]
   exact hs.keepT hk hX (by decide) (by decide) (by decide)
theorem info_partsN {t : TypeId} {n b : Nat} (h : (Tryz.prog.info? t).map (fun i => (i.size, i.bytes, i.zero.map fun z => z.cells.size)) = some (n, b, some n)) : ∃ i z, Tryz.prog.info? t = some i ∧ i.zero = some z ∧ i.size = n ∧ i.bytes = b ∧ z.cells.size = n := by
 revert h
 cases Tryz.prog.info? t with
 | none => intro h; cases h
 | some i =>
  intro h
  simp only [Option.map_some, Option.some.injEq, Prod.mk.injEq] at h
  obtain ⟨h1, h2, h3⟩ := h
  cases hz : i.zero with
  | none => rw [hz] at h3; cases h3
  | some z =>
   rw [hz] at h3
   exact ⟨i, z, rfl, hz, h1, h2, by simpa using h3⟩
theorem Tryz.infoV : (Tryz.prog.info? 35).map (fun i => (i.size, i.bytes, i.zero.map fun z => z.cells.size)) = some (7, 72, some 7) := by kernel_rfl
theorem Tryz.infoE : (Tryz.prog.info? 41).map (fun i => (i.size, i.bytes, i.zero.map fun z => z.cells.size)) = some (3, 24, some 3) := by kernel_rfl
theorem Tryz.svcDesc0 : (Tryz.prog.underlying 35).map TypeDesc.isRow = some true := by kernel_rfl
theorem Tryz.svcDesc : ∃ d, Tryz.prog.underlying 35 = some d ∧ d.isRow = true := by
 have h := Tryz.svcDesc0
 revert h
 cases Tryz.prog.underlying 35 with
 | none => intro h; cases h
 | some d => intro h; exact ⟨d, rfl, by simpa using h⟩
theorem Tryz.svcSize : (Tryz.prog.info? 35).map (·.size) = some 7 := by kernel_rfl
/-- a new row of one element -/
theorem sl_new1 {α : Type} {enc : α → List Value} {n : Nat} (hs : ∀ x, (enc x).length = n) (w : World) (s : α) (T : TypeId) (l : List Value) (hl : enc s = l) : Sl enc n (w.alloc (.cells l.toArray T)) (.slice (some ⟨w.heap.size, 0, none⟩) 1 1) [s] := by
 subst hl
 have h := World.ownsRow_lit (base := 0) (e := T) (size := n) w (enc s).toArray 1 (Nat.zero_le _) (by unfold maxLen; omega) (by simp [hs])
 refine Sl.of_own' hs (base := 0) (e := T) ?_
 have e : ([s] : List α).flatMap enc = (enc s).toArray.toList := by simp
 rw [e]
 exact h
theorem encV_one {s : SvcD} (h : ∃ a n c, s.kv = .slice a n c) : ∀ u ∈ encV s, u.oneCell' = true := by
 obtain ⟨a, n, c, h⟩ := h
 intro u hu
 unfold encV at hu
 rw [h] at hu
 simp at hu
 rcases hu with rfl | rfl | rfl | rfl | rfl | rfl | rfl <;> rfl
theorem encE_one (s : EndD) : ∀ u ∈ encE s, u.oneCell' = true := by
 intro u hu
 simp [encE] at hu
 rcases hu with rfl | rfl | rfl <;> rfl
end Go.Proofs.YtmpciohmljpncaaGreatDoor
namespace Go.Proofs.YtmpciohmljpncaaGreatDoor
open Go.ChangeShapes Go.WideShapes Go.ChangeAt Go.RowKit Go.Lib Go.Shelf
def confA (L : List Int) (m : Nat) : ConfD := { genC L with S := svcsN L m, E := endsA L m, R := [], T := [], w0 := 0, w1 := 0, w2 := 0, w3 := 0, w4 := 0, w5 := 0, w6 := 0 }
/-- the conf's numbers, and where its rules lie -/
def ConfD.cor2 (c : ConfD) : ConfD := { c.core with rv := c.rv }
theorem ConfD.of_cor2 {c d : ConfD} (h : c.cor2 = d) : c.core = { d with rv := .slice none 0 0 } := by
 rw [← h]; rfl
def confB (L : List Int) (t : Nat) : ConfD := { genC L with E := endsA L (svcsM L) ++ endsZ L (svcsM L) t, R := [], T := [], w0 := 0, w1 := 0, w2 := 0, w3 := 0, w4 := 0, w5 := 0, w6 := 0 }
def confC (L : List Int) (k : Nat) : ConfD := { genC L with R := rulesC L (svcsM L) k }
theorem Tryz.confDesc0 : (Tryz.prog.underlying 30).map TypeDesc.isRow = some true := by kernel_rfl
theorem Tryz.confDesc : ∃ d, Tryz.prog.underlying 30 = some d ∧ d.isRow = true := by
 have h := Tryz.confDesc0
 revert h
 cases Tryz.prog.underlying 30 with
 | none => intro h; cases h
 | some d => intro h; exact ⟨d, rfl, by simpa using h⟩
theorem Tryz.confSize : (Tryz.prog.info? 30).map (·.size) = some 20 := by kernel_rfl
noncomputable def confTail (n : Nat) : Code := rightOf n ((Tryz.f4.body).getD .skip)
/-- what Conf tells -/
def ConfP (L : List Int) (w : World) (e : Ending) (w' : World) : Prop := ∃ c, e = .returned c.val ∧ c.core = genC L ∧ ConfOwn w.heap.size w' c ∧ Ext w w'
def conf0 (L : List Int) : ConfD := { confA L 0 with horizon := 0 }
theorem heap_second (w : World) (a b : Obj) : ((w.alloc a).alloc b).heap[w.heap.size + 1]? = some b := by
 show ((w.heap.push a).push b)[w.heap.size + 1]? = _
 rw [Array.getElem?_push]
 simp
set_option maxRecDepth 100000 in
theorem frame236 (x : Nat → Value) : frameOf 236 x = #[x 0, x 1, x 2, x 3, x 4, x 5, x 6, x 7, x 8, x 9, x 10, x 11, x 12, x 13, x 14, x 15, x 16, x 17, x 18, x 19, x 20, x 21, x 22, x 23, x 24, x 25, x 26, x 27, x 28, x 29, x 30, x 31, x 32, x 33, x 34, x 35, x 36, x 37, x 38, x 39, x 40, x 41, x 42, x 43, x 44, x 45, x 46, x 47, x 48, x 49, x 50, x 51, x 52, x 53, x 54, x 55, x 56, x 57, x 58, x 59, x 60, x 61, x 62, x 63, x 64, x 65, x 66, x 67, x 68, x 69, x 70, x 71, x 72, x 73, x 74, x 75, x 76, x 77, x 78, x 79, x 80, x 81, x 82, x 83, x 84, x 85, x 86, x 87, x 88, x 89, x 90, x 91, x 92, x 93, x 94, x 95, x 96, x 97, x 98, x 99, x 100, x 101, x 102, x 103, x 104, x 105, x 106, x 107, x 108, x 109, x 110, x 111, x 112, x 113, x 114, x 115, x 116, x 117, x 118, x 119, x 120, x 121, x 122, x 123, x 124, x 125, x 126, x 127, x 128, x 129, x 130, x 131, x 132, x 133, x 134, x 135, x 136, x 137, x 138, x 139, x 140, x 141, x 142, x 143, x 144, x 145, x 146, x 147, x 148, x 149, x 150, x 151, x 152, x 153, x 154, x 155, x 156, x 157, x 158, x 159, x 160, x 161, x 162, x 163, x 164, x 165, x 166, x 167, x 168, x 169, x 170, x 171, x 172, x 173, x 174, x 175, x 176, x 177, x 178, x 179, x 180, x 181, x 182, x 183, x 184, x 185, x 186, x 187, x 188, x 189, x 190, x 191, x 192, x 193, x 194, x 195, x 196, x 197, x 198, x 199, x 200, x 201, x 202, x 203, x 204, x 205, x 206, x 207, x 208, x 209, x 210, x 211, x 212, x 213, x 214, x 215, x 216, x 217, x 218, x 219, x 220, x 221, x 222, x 223, x 224, x 225, x 226, x 227, x 228, x 229, x 230, x 231, x 232, x 233, x 234, x 235] := rfl
theorem of_frame236 {P : Program} {C : Code} {Q : Exit → Act → World → Prop} {W : World} (A : Array Value) (hA : A.size = 236) (h : Code.wp P C Q ⟨frameOf 236 (fun t => A.getD t undef), []⟩ W) : Code.wp P C Q ⟨A, []⟩ W := by
 have e := frameOf_self ⟨A, []⟩
 simp only [hA] at e
 rw [e]
 exact h
end Go.Proofs.YtmpciohmljpncaaGreatDoor
namespace Go.Proofs.YtmpciohmljpncaaGreatDoor
open Go.ChangeShapes Go.WideShapes Go.ChangeAt Go.RowKit Go.Lib Go.Shelf Go.Maps
/-- an element reads as itself -/
def heldR (v : Value) : Option (DataW Value × List MemPlace) := some (.held v, [])
theorem heldR_inv {v u : Value} {ps : List MemPlace} (h : heldR v = some (.held u, ps)) : v = u := by
 unfold heldR at h
 cases h
 rfl
/-- block b is a map, of at most n entries, from the keys 'mk x' to what f tells -/
def MapV {α : Type} (mk : α → Lit) (w : World) (k : TypeId) (b n : Nat) (f : α → Option Value) : Prop :=
 ∃ D : DataW Value, w.ownsMap Tryz.prog k heldR b n D ∧ (∀ x z, D.atKey (mk x) (.held z) = .held ((f x).getD z)) ∧ ∀ x, Maps.has D (mk x) = (f x).isSome
section
variable {α : Type} {mk : α → Lit} {w : World} {k : TypeId} {b n : Nat} {f : α → Option Value}
theorem MapV.made (mk : α → Lit) (w : World) (k : TypeId) : MapV mk (w.alloc (.map #[] 0)) k w.heap.size 0 (fun _ => none) := ⟨_, World.ownsMap_made _ _ _ _, fun _ _ => rfl, fun _ => rfl⟩
theorem MapV.lt (h : MapV mk w k b n f) : b < w.heap.size := by
 obtain ⟨D, h1, -⟩ := h
 exact h1.lt
theorem MapV.mono (h : MapV mk w k b n f) {m : Nat} (hm : n ≤ m) : MapV mk w k b m f := by
 obtain ⟨D, h1, h2⟩ := h
 exact ⟨D, h1.mono hm, h2⟩
theorem MapV.kept {w' : World} {row : Option Nat} (h : MapV mk w k b n f) (hg : w.grownBy w' row) (hne : some b ≠ row) : MapV mk w' k b n f := by
 obtain ⟨D, h1, h2⟩ := h
 exact ⟨D, h1.kept hg hne, h2⟩
theorem MapV.ext {w' : World} (h : MapV mk w k b n f) (e : Ext w w') : MapV mk w' k b n f := h.kept (row := none) ⟨e.os, e.tape, e.output, e.size, fun i hi _ => e.block i hi⟩ (by simp)
theorem MapV.alloc (h : MapV mk w k b n f) (o : Obj) : MapV mk (w.alloc o) k b n f := by
 obtain ⟨D, h1, h2⟩ := h
 exact ⟨D, h1.alloc o, h2⟩
theorem MapV.setCell (h : MapV mk w k b n f) {a : Addr} (ha : b ≠ a.block) (u : Value) : MapV mk (w.setCell a u) k b n f := by
 obtain ⟨D, h1, h2⟩ := h
 exact ⟨D, h1.setCell ha u, h2⟩
theorem MapV.congr {g : α → Option Value} (h : MapV mk w k b n f) (e : ∀ x, f x = g x) : MapV mk w k b n g := by
 rw [← funext e]
 exact h
theorem MapV.look {t e : TypeId} (h : MapV mk w k b n f) (K : Keyed Tryz.prog k) (ht : Tryz.prog.underlying t = some (.map k e)) {z : Value} (hz : (zeroValue e).run Tryz.prog w = .ok z w) {key : Value} {x : α} (hkey : keyOf Tryz.prog k key = some (mk x)) :
  (Instr.lookup t (.map (some b)) key false).run Tryz.prog w = .ok ((f x).getD z) w := by
 obtain ⟨D, h1, h2, -⟩ := h
 obtain ⟨v, ps, hrun, hv⟩ := h1.lookup K ht hz (show heldR z = some (.held z, []) from rfl) hkey
 rw [h2] at hv
 rw [hrun, heldR_inv hv]
theorem MapV.put [DecidableEq α] {t e : TypeId} (h : MapV mk w k b n f) (hmk : ∀ x y, mk x = mk y → x = y) (K : Keyed Tryz.prog k) (ht : Tryz.prog.underlying t = some (.map k e)) (hn : n < maxLen) {key val : Value} {x : α} (hkey : keyOf Tryz.prog k key = some (mk x)) :
  ∃ w', (Instr.mapUpdate t (.map (some b)) key val).run Tryz.prog w = .ok () w' ∧ MapV mk w' k b (n + 1) (fun y => if y = x then some val else f y) ∧ w.mapTurned w' b := by
 obtain ⟨D, h1, h2, h3⟩ := h
 obtain ⟨w', hrun, r1, r2⟩ := h1.store K ht hn hkey (show heldR val = some (.held val, []) from rfl)
 have hk := K.key hkey
 refine ⟨w', hrun, ⟨_, r1, fun y z => ?_, fun y => ?_⟩, r2⟩
 ·by_cases e : y = x
  ·subst e
   rw [atKey_put_same h1.isMap hk]
   simp
  ·rw [atKey_put_other (fun e' => e (hmk _ _ e')), h2 y]
   simp [e]
 ·by_cases e : y = x
  ·subst e
   rw [has_put_same h1.isMap hk]
   simp
  ·rw [has_put_other (fun e' => e (hmk _ _ e')), h3 y]
   simp [e]
end
section
variable {α : Type} {mk : α → Lit} {k : TypeId} {b n : Nat} {f : α → Option Value} (w : World) {ops : Array Oper} {rest : List Oper} {o : Oper} {a : Act} {Q : Exit → Act → World → Prop}
theorem wpList_mv_look (hg : o.guard = none) (m x : Operand) (t : TypeId) (hop : o.op = Op.lookup t m x false) {e : TypeId} (h : MapV mk w k b n f) (K : Keyed Tryz.prog k) (ht : Tryz.prog.underlying t = some (.map k e)) {z : Value} (hz : (zeroValue e).run Tryz.prog w = .ok z w)
  (hm : a.eval m = .map (some b)) (key : Value) (hx : a.eval x = key) {y : α} (hkey : keyOf Tryz.prog k key = some (mk y)) (r : Value) (hr : (f y).getD z = r)
  (hK : wpList Tryz.prog ops Q rest (a.put o.dst r) w) : wpList Tryz.prog ops Q (o :: rest) a w := by
 refine wpList_plain hg fun K' hK' => ?_
 have hrun := h.look K ht hz hkey
 subst hr
 unfold Oper.wp
 simp [execOp, hop, hm, hx, hrun, Result.andThen]
 exact hK' _ _ hK
theorem wpList_mv_put [DecidableEq α] (hg : o.guard = none) (m x v : Operand) (t : TypeId) (hop : o.op = Op.mapUpdate t m x v) {e : TypeId} (h : MapV mk w k b n f) (hmk : ∀ x y, mk x = mk y → x = y) (K : Keyed Tryz.prog k) (ht : Tryz.prog.underlying t = some (.map k e)) (hn : n < maxLen)
  (hm : a.eval m = .map (some b)) (key val : Value) (hx : a.eval x = key) (hv : a.eval v = val) {y : α} (hkey : keyOf Tryz.prog k key = some (mk y))
  (hK : ∀ w', MapV mk w' k b (n + 1) (fun z => if z = y then some val else f z) → w.mapTurned w' b → wpList Tryz.prog ops Q rest (a.put o.dst undef) w') : wpList Tryz.prog ops Q (o :: rest) a w := by
 refine wpList_plain hg fun K' hK' => ?_
 obtain ⟨w', hrun, r1, r2⟩ := h.put hmk K ht hn hkey (val := val)
 unfold Oper.wp
 simp [execOp, hop, hm, hx, hv, hrun, Result.andThen]
 exact hK' _ _ (hK w' r1 r2)
end
theorem intLit_inj (x y : Int) (h : Lit.int .i64 x = Lit.int .i64 y) : x = y := by
 cases h
 rfl
theorem keyedI : Keyed Tryz.prog 3 := int_keyed Tryz.underlying3
theorem keyIn {z : Int} (hz : I64 z) : keyOf Tryz.prog 3 (.int .i64 z) = some (.int .i64 z) := keyOf_int_mk Tryz.underlying3 (WalkArith.wf_i64 hz)
end Go.Proofs.YtmpciohmljpncaaGreatDoor
