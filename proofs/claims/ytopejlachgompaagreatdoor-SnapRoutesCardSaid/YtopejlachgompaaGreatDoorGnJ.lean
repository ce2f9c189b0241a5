
/- ref04.set and Heads: some heads. -/
import Derived.Test.YtopejlachgompaaGreatDoorGnI
namespace Go.Proofs.YtopejlachgompaaGreatDoor
open Go.ChangeShapes Go.WideShapes Go.ChangeAt Go.RowKit Go.Lib Go.Shelf
theorem heads_new1 (w : World) (a b : ByteArray) (T : TypeId) : Heads (w.alloc (.cells #[.string a, .string b] T)) (.slice (some ⟨w.heap.size, 0, none⟩) 1 1) [(a, b)] := by
 have h := World.ownsRow_lit (base := 0) (e := T) (size := 2) w #[.string a, .string b] 1 (Nat.zero_le _) (by unfold maxLen; omega) rfl
 exact Sl.of_own' (enc := encH) (xs := [(a, b)]) encH_len (base := 0) (e := T) h
def Sz100 (D : List HeadD) : Prop := ∀ h ∈ D, h.1.size ≤ 100 ∧ h.2.size ≤ 100
theorem Sz100.app {D : List HeadD} (h : Sz100 D) {x : HeadD} (hx : x.1.size ≤ 100 ∧ x.2.size ≤ 100) : Sz100 (D ++ [x]) := fun y hy => by
 rcases List.mem_append.1 hy with hy | hy
 ·exact h y hy
 ·rw [List.mem_singleton.1 hy]; exact hx
theorem Sz100.hsz {D : List HeadD} (h : Sz100 D) : HSz D := fun y hy => by
 have := h y hy
 omega
set_option maxRecDepth 100000 in
set_option maxHeartbeats 8000000 in
theorem set_any (L : List HeadD) (x1 x2 : ByteArray) (v : Value) (w : World) (hs : Heads w v L) (hz : Sz100 L) (hh : x1.size ≤ 100 ∧ x2.size ≤ 100) (hl : L.length ≤ 100) :
  Calls Tryz.prog 41 #[v, .agg #[.string x1, .string x2]] w fun e w' => ∃ (v' : Value) (D : List HeadD), e = .returned v' ∧ w'.ownsRow w.heap.size 110 2 v' D.length (D.flatMap encH) ∧ Sz100 D ∧ D.length ≤ L.length + 1 ∧ Ext w w' := by
 obtain ⟨_, a, c, rfl⟩ := hs.shape
 obtain ⟨ih, hih0, hih1, hih2, hih3⟩ := info_partsS Tryz.infoH
 have HS := hide hs
 have HZ := hide hz
 have HH := hide hh
 clear hs hz hh
 go_enter Tryz.func41, Tryz.ntmps41
 go_wp2_with fail
 have hb := heap_alloc_new w (.cells #[.string x1, .string x2] 110)
 have hex : Ext w (w.alloc (.cells #[.string x1, .string x2] 110)) := (Below.refl _ w).alloc (Nat.le_refl _) _
 generalize w.alloc (.cells #[.string x1, .string x2] 110) = W0 at *
 have HB := hide hb
 have HEX := hide hex
 clear hb hex
 go_loopw [5, 6, 7] (fun v5 v6 v7 wr => ∃ (i : Nat) (D : List HeadD) (has : Bool), v7 = .int .i64 i ∧ v6 = .bool has ∧ i ≤ L.length ∧ D.length = i ∧ Sz100 D ∧ wr.ownsRow (w.heap.size + 1) 110 2 v5 D.length (D.flatMap encH) ∧ wr.heap[w.heap.size]? = some (.cells #[.string x1, .string x2] 110 (0, 0)) ∧ Ext w wr) (fun _ _ i _ => L.length - (intOf i).toNat)
 case atStart => exact ⟨0, [], false, rfl, rfl, by omega, rfl, fun h hh => absurd hh List.not_mem_nil, World.ownsRow_nil _ _ _ _, HB.out, HEX.out⟩
 case round =>
  obtain ⟨i, D, has, rfl, rfl, hi, hD, hsz, hown, hbx, hext⟩ := hrel
  obtain ⟨xa, xc, rfl⟩ := owns_shape hown
  have HOW := hide hown
  have HBX := hide hbx
  have HE := hide hext
  have HSZ := hide hsz
  have HD := hide hD
  clear hown hbx hext hsz HB HEX hD
  by_cases hlt : i < L.length
  ·obtain ⟨b, off, rfl, hbb, hc1, hc2⟩ := heads_at HS.out i hlt
   have hc1' := (HE.out.cell (p := ⟨b, off + i * 2, none⟩) hbb).trans hc1
   have hc2' := (HE.out.cell (p := ⟨b, off + i * 2 + 1, none⟩) hbb).trans hc2
   have hy := HZ.out L[i] (List.getElem_mem hlt)
   obtain ⟨⟨y1, y2⟩, hyy⟩ : ∃ x, L[i] = x := ⟨_, rfl⟩
   simp only [hyy] at hc1' hc2' hy
   have HY := hide hy
   clear hc1 hc2 hyy hy
   have d0 : wr.cell? ⟨w.heap.size, 0, none⟩ = some (.string x1) := ArrB.cell HBX.out 0 _ rfl
   obtain ⟨t, ht⟩ : ∃ t, (y1.toList == x1.toList) = t := ⟨_, rfl⟩
   cases t with
   | true =>
    go_wp2_with fail
    go_quiet (fail)
    rename_i nq
    have hEn : Ext wr (wr.drewN nq) := Below.drewN' (Below.refl _ _) _
    clear ht d0 hc1' hc2'
    generalize wr.drewN nq = W5 at *
    have hbx5 := (hEn.block _ (Array.getElem?_eq_some_iff.1 HBX.out).1).trans HBX.out
    have d0 : W5.cell? ⟨w.heap.size, 0, none⟩ = some (.string x1) := ArrB.cell hbx5 0 _ rfl
    have d1 : W5.cell? ⟨w.heap.size, 1, none⟩ = some (.string x2) := ArrB.cell hbx5 1 _ rfl
    have how5 := owns_ext HOW.out hEn
    have hE5 := HE.out.trans hEn
    go_upto_region 7 with (fail)
    refine wp_region_lit ?_
    refine wpList_plain rfl fun K hK => ?_
    go_simp
    refine hK _ _ ?_
    refine wpList_plain rfl fun K hK => ?_
    go_simp
    refine hK _ _ ?_
    refine wpList_plain rfl fun K hK => ?_
    go_simp
    refine hK _ _ ?_
    have hxa := (Below.refl W5.heap.size W5).alloc (Nat.le_refl _) (.cells #[.string x1, .string x2] 110)
    refine wpList_append_sl (enc := encH) rfl _ _ _ rfl (w.heap.size + 1) 110 ih _ 2 32 Tryz.underlying61 hih0 hih1 hih2 hih3 rfl (by decide) encH_len (.slice xa D.length xc) D.length (D.flatMap encH) rfl (owns_ext how5 hxa) _ rfl [(x1, x2)] (heads_new1 W5 x1 x2 _) (fun x _ => encH_one x) (by have := HD.out; unfold maxLen; simp; omega) (by have := HD.out; simp; omega) (by have h1 := (Array.getElem?_eq_some_iff.1 hbx5).1; have h2 := hxa.size; omega) ?_
    intro v7 w7 hown7 hg7
    have hk7 : Keeps (fun q => (Value.slice xa D.length xc).ownBlock = some q) W5 w7 := (Keeps.of_ext hxa).trans (Keeps.of_grown hg7 (fun q h => h))
    have hE7 : Ext w w7 := Keeps.ext hE5 hk7 (fun q hq => by have := (HOW.out.lt q hq).1; omega)
    have hb7 := (hk7.block _ (Array.getElem?_eq_some_iff.1 hbx5).1 (fun e => by have := (HOW.out.lt _ e).1; omega)).trans hbx5
    have hown8 : w7.ownsRow (w.heap.size + 1) 110 2 v7 (D ++ [(x1, x2)]).length ((D ++ [(x1, x2)]).flatMap encH) := by simpa using hown7
    have HO8 := hide hown8
    have HB7 := hide hb7
    have HE7 := hide hE7
    clear hown8 hb7 hE7 hown7 hg7 hk7 hxa how5 hE5 d0 d1 hbx5
    refine wpList_plain rfl fun K hK => ?_
    go_simp
    refine hK _ _ ?_
    refine wpList_nil ?_
    go_wp2
    go_roundw
    case rel => exact ⟨i + 1, D ++ [(x1, x2)], true, by go_num, rfl, by omega, by have := HD.out; simp; omega, HSZ.out.app HH.out, HO8.out, HB7.out, HE7.out⟩
    case measure => simp [intOf] <;> omega
   | false =>
    go_wp2_with fail
    go_quiet (fail)
    rename_i nq
    have hEn : Ext wr (wr.drewN nq) := Below.drewN' (Below.refl _ _) _
    have hc1n : (wr.drewN nq).cell? ⟨b, off + i * 2, none⟩ = some (.string y1) := hc1'
    have hc2n : (wr.drewN nq).cell? ⟨b, off + i * 2 + 1, none⟩ = some (.string y2) := hc2'
    clear ht d0 hc1' hc2'
    generalize wr.drewN nq = W5 at *
    have hbx5 := (hEn.block _ (Array.getElem?_eq_some_iff.1 HBX.out).1).trans HBX.out
    have how5 := owns_ext HOW.out hEn
    have hE5 := HE.out.trans hEn
    go_upto_region 9 with (fail)
    refine wp_region_lit ?_
    refine wpList_plain rfl fun K hK => ?_
    go_simp
    refine hK _ _ ?_
    refine wpList_plain rfl fun K hK => ?_
    go_simp
    refine hK _ _ ?_
    refine wpList_plain rfl fun K hK => ?_
    go_simp
    refine hK _ _ ?_
    refine wpList_plain rfl fun K hK => ?_
    go_simp
    refine hK _ _ ?_
    refine wpList_plain rfl fun K hK => ?_
    go_simp
    refine hK _ _ ?_
    refine wpList_plain rfl fun K hK => ?_
    go_simp
    refine hK _ _ ?_
    have hxa := (Below.refl W5.heap.size W5).alloc (Nat.le_refl _) (.cells #[.string y1, .string y2] 110)
    refine wpList_append_sl (enc := encH) rfl _ _ _ rfl (w.heap.size + 1) 110 ih _ 2 32 Tryz.underlying61 hih0 hih1 hih2 hih3 rfl (by decide) encH_len (.slice xa D.length xc) D.length (D.flatMap encH) rfl (owns_ext how5 hxa) _ rfl [(y1, y2)] (heads_new1 W5 y1 y2 _) (fun x _ => encH_one x) (by have := HD.out; unfold maxLen; simp; omega) (by have := HD.out; simp; omega) (by have h1 := (Array.getElem?_eq_some_iff.1 hbx5).1; have h2 := hxa.size; omega) ?_
    intro v7 w7 hown7 hg7
    have hk7 : Keeps (fun q => (Value.slice xa D.length xc).ownBlock = some q) W5 w7 := (Keeps.of_ext hxa).trans (Keeps.of_grown hg7 (fun q h => h))
    have hE7 : Ext w w7 := Keeps.ext hE5 hk7 (fun q hq => by have := (HOW.out.lt q hq).1; omega)
    have hb7 := (hk7.block _ (Array.getElem?_eq_some_iff.1 hbx5).1 (fun e => by have := (HOW.out.lt _ e).1; omega)).trans hbx5
    have hown8 : w7.ownsRow (w.heap.size + 1) 110 2 v7 (D ++ [(y1, y2)]).length ((D ++ [(y1, y2)]).flatMap encH) := by simpa using hown7
    have HO8 := hide hown8
    have HB7 := hide hb7
    have HE7 := hide hE7
    clear hown8 hb7 hE7 hown7 hg7 hk7 hxa how5 hE5 hbx5
    refine wpList_plain rfl fun K hK => ?_
    go_simp
    refine hK _ _ ?_
    refine wpList_nil ?_
    go_wp2
    go_roundw
    case rel => exact ⟨i + 1, D ++ [(y1, y2)], has, by go_num, rfl, by omega, by have := HD.out; simp; omega, HSZ.out.app HY.out, HO8.out, HB7.out, HE7.out⟩
    case measure => simp [intOf] <;> omega
  ·obtain rfl : i = L.length := by omega
   by_cases hg : has = false ∧ D.length < 8
   ·obtain ⟨rfl, h8⟩ := hg
    have h8z : (D.length : Int) < 8 := by omega
    have d0 : wr.cell? ⟨w.heap.size, 0, none⟩ = some (.string x1) := ArrB.cell HBX.out 0 _ rfl
    have d1 : wr.cell? ⟨w.heap.size, 1, none⟩ = some (.string x2) := ArrB.cell HBX.out 1 _ rfl
    go_upto_region 11 with (fail)
    refine wp_region_lit ?_
    refine wpList_plain rfl fun K hK => ?_
    go_simp
    refine hK _ _ ?_
    refine wpList_plain rfl fun K hK => ?_
    go_simp
    refine hK _ _ ?_
    refine wpList_plain rfl fun K hK => ?_
    go_simp
    refine hK _ _ ?_
    have hxa := (Below.refl wr.heap.size wr).alloc (Nat.le_refl _) (.cells #[.string x1, .string x2] 110)
    refine wpList_append_sl (enc := encH) rfl _ _ _ rfl (w.heap.size + 1) 110 ih _ 2 32 Tryz.underlying61 hih0 hih1 hih2 hih3 rfl (by decide) encH_len (.slice xa D.length xc) D.length (D.flatMap encH) rfl (owns_ext HOW.out hxa) _ rfl [(x1, x2)] (heads_new1 wr x1 x2 _) (fun x _ => encH_one x) (by have := HD.out; unfold maxLen; simp; omega) (by have := HD.out; simp; omega) (by have h1 := (Array.getElem?_eq_some_iff.1 HBX.out).1; have h2 := hxa.size; omega) ?_
    intro v7 w7 hown7 hg7
    have hk7 : Keeps (fun q => (Value.slice xa D.length xc).ownBlock = some q) wr w7 := (Keeps.of_ext hxa).trans (Keeps.of_grown hg7 (fun q h => h))
    have hE7 : Ext w w7 := Keeps.ext HE.out hk7 (fun q hq => by have := (HOW.out.lt q hq).1; omega)
    have hown8 : w7.ownsRow (w.heap.size + 1) 110 2 v7 (D ++ [(x1, x2)]).length ((D ++ [(x1, x2)]).flatMap encH) := by simpa using hown7
    have HO8 := hide hown8
    have HE7 := hide hE7
    clear hown8 hE7 hown7 hg7 hk7 hxa d0 d1
    refine wpList_plain rfl fun K hK => ?_
    go_simp
    refine hK _ _ ?_
    refine wpList_nil ?_
    go_wp2
    go_ret
    first
     | exact ⟨_, rfl, D ++ [(x1, x2)], owns_le HO8.out (by omega), HSZ.out.app HH.out, by have := HD.out; simp; omega, HE7.out⟩
     | exact ⟨_, D ++ [(x1, x2)], rfl, owns_le HO8.out (by omega), HSZ.out.app HH.out, by have := HD.out; simp; omega, HE7.out⟩
   ·cases has with
    | false =>
     have h8z : ¬ (D.length : Int) < 8 := by
      intro h
      exact hg ⟨rfl, by omega⟩
     go_wp2
     go_ret
     first
      | exact ⟨_, rfl, D, owns_le HOW.out (by omega), HSZ.out, by have := HD.out; omega, HE.out⟩
      | exact ⟨_, D, rfl, owns_le HOW.out (by omega), HSZ.out, by have := HD.out; omega, HE.out⟩
    | true =>
     clear hg
     go_wp2
     go_ret
     first
      | exact ⟨_, rfl, D, owns_le HOW.out (by omega), HSZ.out, by have := HD.out; omega, HE.out⟩
      | exact ⟨_, D, rfl, owns_le HOW.out (by omega), HSZ.out, by have := HD.out; omega, HE.out⟩
set_option maxRecDepth 100000 in
set_option maxHeartbeats 8000000 in
theorem heads_any (L : List Int) (v : Value) (w : World) (hs : Ints w v L) (hL : ∀ x ∈ L, I64 x) :
  Calls Tryz.prog 21 #[v] w fun e w' => ∃ (v' : Value) (D : List HeadD), e = .returned v' ∧ Heads w' v' D ∧ HSz D ∧ Ext w w' := by
 obtain ⟨hlz, a, c, rfl⟩ := hs.shape
 have HS := hide hs
 have HLB := hide hL
 clear hs hL
 go_enter Tryz.func21, Tryz.ntmps21
 go_wp2_with fail
 go_loopw [3, 4] (fun v3 v4 wr => ∃ (i : Nat) (D : List HeadD), v4 = .int .i64 i ∧ i ≤ 12 ∧ D.length ≤ i ∧ Sz100 D ∧ Heads wr v3 D ∧ Ext w wr) (fun _ i _ => 12 - (intOf i).toNat)
 case atStart => exact ⟨0, [], rfl, by omega, by simp, fun h hh => absurd hh List.not_mem_nil, ⟨by simp, none, 0, rfl, by simp, fun i x hi => by simp at hi⟩, Below.refl _ _⟩
 case round =>
  obtain ⟨i, D, rfl, hi, hD, hsz, hh, hext⟩ := hrel
  obtain ⟨_, xa, xc, rfl⟩ := hh.shape
  have HE := hide hext
  have HH := hide hh
  have HSZ := hide hsz
  have HD := hide hD
  clear hext hh hsz hD
  by_cases hlt : i < L.length ∧ i < 12
  ·obtain ⟨h1, h2⟩ := hlt
   obtain ⟨b, off, rfl, hbb, hc⟩ := ints_at HS.out i h1
   have hc' := (HE.out.cell (p := ⟨b, off + i, none⟩) hbb).trans hc
   have hone := one_any L[i] wr (HLB.out _ (List.getElem_mem h1))
   generalize L[i] = z at *
   have HO := hide hone
   have h1z : (i : Int) < L.length := by omega
   have h2z : (i : Int) < 12 := by omega
   clear hone hc
   go_wp2_with fail
   refine HO.out.mono ?_
   rintro e w5 ⟨s, t, rfl, hs1, hs2, E5⟩
   have hset := set_any D s t _ w5 (HH.out.ext E5) HSZ.out ⟨hs1, hs2⟩ (by have := HD.out; omega)
   have HSET := hide hset
   clear hset hs1 hs2
   go_wp2_with fail
   refine HSET.out.mono ?_
   rintro e w6 ⟨v6, D6, rfl, ho6, hs6, hl6, E6⟩
   obtain ⟨x6, c6, rfl⟩ := owns_shape ho6
   have HO6 := hide ho6
   have HS6 := hide hs6
   have HL6 := hide hl6
   have HE6 := hide (HE.out.trans (E5.trans E6))
   clear ho6 hs6 hl6 E6 E5
   go_wp2
   go_roundw
   case rel => exact ⟨i + 1, D6, by go_num, by omega, by have h1 := HD.out; have h2 := HL6.out; omega, HS6.out, Sl.of_own' encH_len HO6.out, HE6.out⟩
   case measure => simp [intOf] <;> omega
  ·by_cases h1 : i < L.length
   ·have h1z : (i : Int) < L.length := by omega
    have h2z : ¬ (i : Int) < 12 := by omega
    clear hlt
    go_wp2
    go_ret
    first
     | exact ⟨_, rfl, D, HH.out, HSZ.out.hsz, HE.out⟩
     | exact ⟨_, D, rfl, HH.out, HSZ.out.hsz, HE.out⟩
   ·have h1z : ¬ (i : Int) < L.length := by omega
    clear hlt
    go_wp2
    go_ret
    first
     | exact ⟨_, rfl, D, HH.out, HSZ.out.hsz, HE.out⟩
     | exact ⟨_, D, rfl, HH.out, HSZ.out.hsz, HE.out⟩
end Go.Proofs.YtopejlachgompaaGreatDoor
