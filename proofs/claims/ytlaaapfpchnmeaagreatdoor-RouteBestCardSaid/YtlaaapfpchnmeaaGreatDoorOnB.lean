/- Table.On. -/
import Derived.Laws.CopyOwn
import Derived.Laws.AppendOwnNone
import Derived.Test.YtlaaapfpchnmeaaGreatDoorOnP
namespace Go.Proofs.YtlaaapfpchnmeaaGreatDoor
open Go.ChangeShapes Go.WideShapes Go.ChangeAt Go.RowKit Go.Lib Go.Shelf
/-- the first numbers of a row in a block of its own -/
theorem RowI.owns_take {w : World} {B g cap : Nat} {d : Array Int} (h : RowI w g cap d) (hB : B ≤ g) (hm : cap ≤ maxLen) (m : Nat) (hmd : m ≤ d.size) : w.ownsRow B 3 1 (.slice (some ⟨g, 0, none⟩) m cap) m ((d.toList.take m).flatMap encI) := by
  have h0 := h.owns hB hm
  obtain ⟨cs, h1, h2, h3, h4⟩ := h
  have hl : (d.toList.take m).length = m := by rw [List.length_take]; simp; omega
  refine ⟨by rw [length_flatMap_enc (enc := encI) (size := 1) (fun _ => rfl), hl], .inr ⟨g, cap, cs, rfl, hB, h1, by omega, hm, by omega, ?_⟩⟩
  apply List.ext_getElem?
  intro i
  rw [flat_get]
  by_cases hi : i < m
  · rw [List.getElem?_take_of_lt (by simpa using hi), List.getElem?_take_of_lt hi, List.getElem?_eq_getElem (l := d.toList) (by simp; omega)]
    have := h4 i (by omega)
    rw [getElem!_pos d i (by omega)] at this
    simpa using this
  · rw [List.getElem?_eq_none (by simp; omega), List.getElem?_eq_none (by simp; omega)]
    rfl
theorem splice_all {α : Type} (L cs : List α) (h : cs.length = L.length) : splice L 0 cs = cs := by
  unfold splice
  simp [h]
theorem rowI_of {w : World} {g : Nat} {I : List Int} (h : w.heap[g]? = some (.cells (I.map (Value.int .i64)).toArray 3 (0, 0))) : RowI w g I.length I.toArray := by
  refine ⟨_, h, by simp, by simp, fun i hi => ?_⟩
  have hi' : i < I.length := by simpa using hi
  rw [getElem!_pos I.toArray i hi]
  simp [List.getElem?_eq_getElem hi']
theorem rowR_perm (R : List RuleD) : (rowR R).Perm ((List.range R.length).map fun i : Nat => (i : Int)) := (rowL_spec (cfK_swo (R.map keyR)) R.length).1
theorem rowR_len (R : List RuleD) : (rowR R).length = R.length := by rw [(rowR_perm R).length_eq]; simp
set_option maxRecDepth 100000 in
set_option maxHeartbeats 8000000 in
theorem tabon_any (B b : Nat) (Rs : List RuleD) (p : ByteArray) (w : World) (hT : TabAt B w b Rs (rowR Rs)) (h20 : Rs.length ≤ 1000) (hp : p.size ≤ 9223372036854775807) (hm : MaxV w) :
    Calls Tryz.prog 13 #[.pointer (some ⟨b, 0, none⟩), .string p] w fun e w' => ∃ v', e = .returned v' ∧ Ints w' v' (onL Rs (bl p) Rs.length) ∧ Ext w w' := by
  have hPM := hide (rowR_perm Rs)
  have hIl := rowR_len Rs
  have hIm : ∀ x ∈ rowR Rs, 0 ≤ x ∧ x < Rs.length := fun x hx => rowR_mem hx
  obtain ⟨I, hI⟩ : ∃ I, rowR Rs = I := ⟨_, rfl⟩
  rw [hI] at hT hPM hIl hIm
  clear hI
  obtain ⟨vr, vi, c0, c1, hR, hi, hb, -⟩ := tab_cells hT
  obtain ⟨hli, ai, ci, rfl⟩ := hi.shape
  obtain ⟨i0, hi0, hz0, hz1, hz2⟩ := info_partsS Tryz.infoI
  have hI3 : I.length ≤ 1000 := by omega
  obtain ⟨CS, hcs, hmk⟩ : ∃ CS : Array Value, CS.size = I.length * 1 ∧ ∀ u : World, (Instr.makeSlice 22 (.int .i64 I.length) (.int .i64 I.length)).run Tryz.prog u = .ok (.slice (some ⟨u.heap.size, 0, none⟩) I.length I.length) (u.alloc (.cells CS 3)) :=
    ⟨madeCells (Value.int .i64 0).cells (I.length * i0.size), by rw [size_madeCells, hz1], fun u => by simpa using run_makeSlice (P := Tryz.prog) u 22 3 i0 _ Tryz.underlying22 hi0 hz0 .i64 .i64 I.length I.length (by omega) (by omega) (by rw [hz1]; omega) (by rw [hz2]; omega) (by omega)⟩
  have HI := hide hi
  have HIL := hide hIl
  have HIM := hide hIm
  have HT := hide hT
  have HM := hide hm
  have HCS := hide hcs
  have HI3 := hide hI3
  clear hR hi hT hm hcs c0 hIl hIm
  go_enter Tryz.func13, Tryz.ntmps13
  go_upto_region 1 with (fail)
  have e2 : Ext w ((w.alloc (.cells #[.pointer (some ⟨b, 0, none⟩)] 23)).alloc (.cells #[.string p] 9)) := ((Below.refl _ w).alloc (Nat.le_refl _) _).alloc (by simp) _
  have hs2 : ((w.alloc (.cells #[.pointer (some ⟨b, 0, none⟩)] 23)).alloc (.cells #[.string p] 9)).heap.size = w.heap.size + 1 + 1 := by simp
  have b0 := (Boxed.new w 23 (.pointer (some ⟨b, 0, none⟩))).alloc (.cells #[.string p] 9)
  have b1 := Boxed.new (w.alloc (.cells #[.pointer (some ⟨b, 0, none⟩)] 23)) 9 (.string p)
  simp only [World.size_alloc] at b1
  have k0 := b0.cell
  have k1 := b1.cell
  clear b0 b1
  obtain ⟨W2, hW2⟩ : ∃ W2, (w.alloc (.cells #[.pointer (some ⟨b, 0, none⟩)] 23)).alloc (.cells #[.string p] 9) = W2 := ⟨_, rfl⟩
  rw [hW2] at e2 hs2 k0 k1 ⊢
  clear hW2
  have c2 := (e2.cell (p := ⟨b, 1, none⟩) hb).trans c1
  have HE2 := hide e2
  have HS2 := hide hs2
  have HK0 := hide k0
  have HK1 := hide k1
  clear e2 c1 hs2
  go_upto_region 2 with (fail)
  have hb2 : W2.heap.size = w.heap.size + 1 + 1 := HS2.out
  have eA : Ext W2 (W2.alloc (.cells CS 3)) := (Below.refl _ W2).alloc (Nat.le_refl _) _
  have hG : (W2.alloc (.cells CS 3)).heap[W2.heap.size]? = some (.cells CS.toList.toArray 3 (0, 0)) := by
    show (W2.heap.push _)[W2.heap.size]? = _
    simp
  obtain ⟨W3, hW3⟩ : ∃ W3, W2.alloc (.cells CS 3) = W3 := ⟨_, rfl⟩
  obtain ⟨g, hg⟩ : ∃ g, W2.heap.size = g := ⟨_, rfl⟩
  rw [hW3] at eA hG ⊢
  rw [hg] at hG ⊢
  have hgw : w.heap.size ≤ g := by omega
  have k03 := (eA.cell (p := ⟨w.heap.size, 0, none⟩) (by show w.heap.size < W2.heap.size; omega)).trans k0
  have c23 := (eA.cell (p := ⟨b, 1, none⟩) (by have := HE2.out.size; show b < W2.heap.size; omega)).trans c2
  have hsrc : ∀ (j : Nat) (v : Value), (I.map (Value.int .i64))[j]? = some v → ∃ bi oi, ai = some ⟨bi, oi, none⟩ ∧ W3.cell? ⟨bi, oi + j, none⟩ = some v := fun j v hv => by
    have hjl : j < I.length := by
      have := (List.getElem?_eq_some_iff.1 hv).1
      simpa using this
    obtain ⟨bi, oi, e, hbi, hc⟩ := ints_at ((HI.out.ext HE2.out).ext eA) j hjl
    rw [List.getElem?_map, List.getElem?_eq_getElem hjl] at hv
    exact ⟨bi, oi, e, by rw [hc]; exact hv⟩
  obtain ⟨Z, hZ⟩ : ∃ Z, I.map (Value.int .i64) = Z := ⟨_, rfl⟩
  have hZl : Z.length = I.length := by rw [← hZ]; simp
  have hZ1 : ∀ v ∈ Z, v.oneCell' = true := fun v hv => by
    rw [← hZ] at hv
    obtain ⟨x, -, rfl⟩ := List.mem_map.1 hv
    rfl
  rw [hZ] at hsrc
  have HZ := hide hZ
  have HZL := hide hZl
  have HZ1 := hide hZ1
  have HSRC := hide hsrc
  have HG := hide hG
  have HEA := hide eA
  have HGE := hide hg
  clear hZ hZl hZ1 hsrc hG eA k0 c2 hW3 hg hb2
  refine wp_region_lit ?_
  refine wpList_plain rfl fun K hK => ?_
  go_simp
  refine hK _ _ ?_
  refine wpList_plain rfl fun K hK => ?_
  go_simp
  refine hK _ _ ?_
  refine wpList_plain rfl fun K hK => ?_
  go_simp
  refine hK _ _ ?_
  refine wpList_plain rfl fun K hK => ?_
  go_simp
  refine hK _ _ ?_
  refine wpList_plain rfl fun K hK => ?_
  go_simp
  refine hK _ _ ?_
  refine wpList_copy_splice rfl (.tmp 12) (.tmp 16) 22 22 rfl 3 (by kernel_rfl) (by kernel_rfl) (some ⟨g, 0, none⟩) ai I.length I.length I.length ci rfl rfl g 0 CS.toList 3 HG.out Z (by rw [HZL.out]; exact (Nat.min_self I.length).symm) ?_ (by rw [HZL.out]; have := HCS.out; simp; omega) HZ1.out W2.heap.size W2 HEA.out (by have := HGE.out; omega) ?_
  · intro h0
    refine ⟨rfl, ?_⟩
    have hz0 : 0 < Z.length := h0
    obtain ⟨bi, oi, e, -⟩ := HSRC.out 0 Z[0] (List.getElem?_eq_getElem hz0)
    refine ⟨_, e, fun j v hv => ?_⟩
    obtain ⟨bj, oj, e', hc⟩ := HSRC.out j v hv
    rw [e] at e'
    cases e'
    rw [add_cell']
    exact hc
  intro w4 hG4 hE4
  have hsp : splice CS.toList 0 Z = Z := splice_all _ _ (by rw [HZL.out]; have := HCS.out; simp; omega)
  have hr4 : RowI w4 g I.length I.toArray := by
    refine rowI_of ?_
    rw [HZ.out, ← hsp]
    exact hG4.out
  have hc0 : ∀ X, Ext W2 X → X.cell? ⟨w.heap.size, 0, none⟩ = some (.pointer (some ⟨b, 0, none⟩)) := fun X hX => (hX.cell (p := ⟨w.heap.size, 0, none⟩) (by have := HS2.out; show w.heap.size < W2.heap.size; omega)).trans HK0.out
  have hc1 : ∀ X, Ext W2 X → X.cell? ⟨w.heap.size + 1, 0, none⟩ = some (.string p) := fun X hX => (hX.cell (p := ⟨w.heap.size + 1, 0, none⟩) (by have := HS2.out; show w.heap.size + 1 < W2.heap.size; omega)).trans HK1.out
  have hpred : PredOk w4 g Rs.length 28 #[.pointer (some ⟨w.heap.size, 0, none⟩), .pointer (some ⟨w.heap.size + 1, 0, none⟩)] (fun x => !onN Rs (bl p) x.toNat) := by
    refine ⟨fun args X => by kernel_rfl, ?_⟩
    intro X hX x hx0 hxn
    obtain ⟨k, rfl⟩ := Int.eq_ofNat_of_zero_le hx0
    have hW : Ext W2 X := Keeps.ext hE4 hX (fun q hq => by have := HGE.out; omega)
    exact onK_any B b w.heap.size (w.heap.size + 1) k Rs I p X (HT.out.ext (HE2.out.trans hW)) (by omega) hp (HM.out.ext (HE2.out.trans hW)) (hc0 X hW) (hc1 X hW)
  have hin : InR Rs.length I.toArray := fun i hi => by
    have hi' : i < I.length := by simpa using hi
    rw [getElem!_pos I.toArray i hi]
    have := HIM.out I[i] (List.getElem_mem hi')
    simpa using this
  have hdel := deleteF_any Rs.length g I.length I.length _ _ I.toArray _ w4 (by simp) hin hpred hr4 HI3.out (by have := HI3.out; omega)
  have hfl : (I.toArray.toList.filter fun x => !!onN Rs (bl p) x.toNat) = I.filter fun x => onN Rs (bl p) x.toNat := by simp
  simp only [hfl] at hdel
  obtain ⟨F, hF⟩ : ∃ F, (I.filter fun x => onN Rs (bl p) x.toNat) = F := ⟨_, rfl⟩
  have hFs : srtI F = onL Rs (bl p) Rs.length := by rw [← hF]; exact srt_on Rs (bl p) I hPM.out
  have hFl : F.length ≤ I.length := by rw [← hF]; exact List.length_filter_le _ _
  rw [hF] at hdel
  have HDEL := hide hdel
  have HFS := hide hFs
  have HFL := hide hFl
  have HE4 := hide hE4
  clear hdel hfl hF hFs hFl hin hpred hc0 hc1 hr4 hsp hG4 hE4 k1 k03 c23 HK0 HK1 HZ HZL HZ1 HSRC HG HEA hmk
  refine wpList_nil ?_
  go_wp2_with fail
  refine HDEL.out.mono ?_
  rintro e w5 ⟨d', rfl, hr5, hds, htk, hk5⟩
  have hE5 : Ext w w5 := Keeps.ext (HE2.out.trans HE4.out) hk5 (fun q hq => by have := hgw; omega)
  have hown := hr5.owns_take (B := w.heap.size) hgw (by have := HI3.out; unfold maxLen; omega) F.length (by have := HFL.out; omega)
  rw [htk] at hown
  have hsrt := sort_own hown (by have := HFL.out; have := HI3.out; omega) hE5.size
  have HSRT := hide hsrt
  have HE5 := hide hE5
  clear hsrt hown hr5 hds htk hk5 hE5 HDEL
  go_wp2_with fail
  refine HSRT.out.mono ?_
  rintro e w6 ⟨rfl, hown6, hb6⟩
  have hin6 := Sl.of_own' (enc := encI) (fun _ => rfl) (xs := srtI F) (by rw [show (srtI F).length = F.length from (srtI_perm F).length_eq]; exact hown6)
  have HIN6 := hide hin6
  have HE6 := hide (Below.trans HE5.out hb6)
  clear hown6 hin6 hb6 HSRT
  go_wp2
  go_ret
  exact ⟨_, rfl, by rw [← HFS.out]; exact HIN6.out, HE6.out⟩
end Go.Proofs.YtlaaapfpchnmeaaGreatDoor
