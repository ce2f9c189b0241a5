/- SnapRoutes: its walk (printed by wip/gen_swr.py). -/
import Derived.Deep.RegionHeld3
import Derived.Test.YtopejlachgompaaGreatDoorZsf
import Derived.Test.YtopejlachgompaaGreatDoorRfD
import Derived.Test.YtopejlachgompaaGreatDoorZl
import Derived.Test.YtopejlachgompaaGreatDoorZg
import Derived.Test.YtopejlachgompaaGreatDoorGnJ
import Derived.Test.YtopejlachgompaaGreatDoorZe
namespace Go.Proofs.YtopejlachgompaaGreatDoor
open Go.ChangeShapes Go.WideShapes Go.ChangeAt Go.RowKit Go.Lib Go.Shelf Go.Maps
theorem gen_path (L : List Int) : (genR L).path.size ≤ 9223372036854775807 ∧ isPath (bl (genR L).path) = true := ⟨(genR_fit L).1, by rw [genR_path, bl_pathA']; exact (pathN_path _).1⟩
theorem last_fits (k : Nat) {p : List UInt8} (hp : isPath p = true) (H : List HeadD) : fitR (lastN k) p H = true := by
 have e : fitR (lastN k) p H = (isPath p && true && true) := by
  unfold fitR fitsB onB beginsB
  rfl
 rw [e, hp]
 rfl
theorem core_R {c d : ConfD} (h : c.core = d.core) : c.R.map RuleD.core = d.R.map RuleD.core := by
 have : c.core.R = d.core.R := by rw [h]
 exact this
theorem genC_rules {c : ConfD} {L : List Int} (h : c.core = genC L) : ∀ r ∈ c.R, r.path.size ≤ 9223372036854775807 ∧ isPath (bl r.path) = true := fun r hr => by
 have h1 : r.core ∈ (genC L).R := by
  rw [← h]
  exact List.mem_map.2 ⟨r, hr, rfl⟩
 have h2 : r.core ∈ rulesC L (svcsM L) (numR L) ++ [lastN (pk L 7)] := h1
 rcases List.mem_append.1 h2 with h3 | h3
 ·unfold rulesC at h3
  obtain ⟨i, -, h4⟩ := List.mem_map.1 h3
  have h5 := gen_path ((L.drop (min L.length 9)).drop (8 * i))
  have h6 : r.path = (genR ((L.drop (min L.length 9)).drop (8 * i))).path := by
   have := congrArg RuleD.path h4
   exact this.symm
  rw [h6]
  exact h5
 ·have h4 := List.mem_singleton.1 h3
  have h6 : r.path = ⟨#[47]⟩ := congrArg RuleD.path h4
  rw [h6]
  exact ⟨by decide, by decide⟩
theorem genC_found {c : ConfD} {L : List Int} (h : c.core = genC L) {p : List UInt8} (hp : isPath p = true) (H : List HeadD) : (found c.R p H).isSome = true := by
 have hR : c.R.map RuleD.core = rulesC L (svcsM L) (numR L) ++ [lastN (pk L 7)] := by
  have : c.core.R = (genC L).R := by rw [h]
  exact this
 have hl : c.R.length = (rulesC L (svcsM L) (numR L)).length + 1 := by
  have := congrArg List.length hR
  simpa using this
 rcases found_spec c.R p H with ⟨i, h1, -⟩ | ⟨-, h2⟩
 ·rw [h1]; rfl
 ·have h3 := h2 (rulesC L (svcsM L) (numR L)).length (by omega)
  have h4 : (c.R.map RuleD.core)[(rulesC L (svcsM L) (numR L)).length]? = some (lastN (pk L 7)) := by
   rw [hR, List.getElem?_append_right (Nat.le_refl _)]
   simp
  rw [List.getElem?_map] at h4
  unfold fitN at h3
  cases hq : c.R[(rulesC L (svcsM L) (numR L)).length]? with
  | none => rw [hq] at h4; cases h4
  | some r =>
   rw [hq] at h4 h3
   have h5 : r.core = lastN (pk L 7) := by simpa using h4
   have h6 : fitR r p H = true := by
    rw [← fitR_core, h5]
    exact last_fits _ hp H
   rw [show fitR r p H = false from h3] at h6
   cases h6
set_option maxRecDepth 100000 in
set_option maxHeartbeats 16000000 in
theorem routes_walk (L : List Int) (n : Int) (M : List Int) (v u : Value) (w : World) (hs : Ints w v L) (hL : ∀ x ∈ L, I64 x) (hn : I64 n) (ht : Ints w u M) (hM : ∀ x ∈ M, I64 x) (hm : MaxV w) :
  Calls Tryz.prog 5 #[v, .int .i64 n, u] w fun e w' => e = .returned (.bool true) ∧ Ext w w' := by
 have HMD := hide (made16_any L v w hs hL hm)
 have HPA := hide (fun X => pathof_any n X hn)
 have HHD := hide (fun X (hX : Ext w X) => heads_any M u X (ht.ext hX) hM)
 obtain ⟨_, a, cap, rfl⟩ := hs.shape
 obtain ⟨_, a', cap', rfl⟩ := ht.shape
 have HM := hide hm
 clear hs hL hm ht hM hn
 go_enter Tryz.func5, Tryz.ntmps5
 go_wp2_with fail
 refine HMD.out.mono ?_
 rintro e W1 ⟨ba, c, B1, rfl, hc, ho, hB1, hsa, E1⟩
 have HCC := hide hc
 clear hc HMD
 have hbz := heap_alloc_new W1 (.cells #[.slice none 0 0, .slice none 0 0, .slice none 0 0, .slice none 0 0, .int .i64 0, .int .i64 0, .int .i64 0, .int .i64 0, .int .i64 0, .int .i64 0, .int .i64 0, .int .i64 0, .int .i64 0, .int .i64 0, .int .i64 0, .int .i64 0, .int .i64 0, .int .i64 0, .int .i64 0, .int .i64 0] 31)
 have hxz : Ext W1 (W1.alloc (.cells #[.slice none 0 0, .slice none 0 0, .slice none 0 0, .slice none 0 0, .int .i64 0, .int .i64 0, .int .i64 0, .int .i64 0, .int .i64 0, .int .i64 0, .int .i64 0, .int .i64 0, .int .i64 0, .int .i64 0, .int .i64 0, .int .i64 0, .int .i64 0, .int .i64 0, .int .i64 0, .int .i64 0] 31)) := (Below.refl _ _).alloc (Nat.le_refl _) _
 have hth : (W1.alloc (.cells #[.slice none 0 0, .slice none 0 0, .slice none 0 0, .slice none 0 0, .int .i64 0, .int .i64 0, .int .i64 0, .int .i64 0, .int .i64 0, .int .i64 0, .int .i64 0, .int .i64 0, .int .i64 0, .int .i64 0, .int .i64 0, .int .i64 0, .int .i64 0, .int .i64 0, .int .i64 0, .int .i64 0] 31)).there W1.heap.size 0 20 := fun q hq => by
  rw [Nat.zero_add]
  refine ⟨?_, by simp only [World.frozen?]; rw [hbz]; simp⟩
  simp only [World.cell?, hbz]
  simp [hq]
 go_upto_region 2 with (refine wpList_store_mid rfl 31 (.tmp 8) (.tmp 19) rfl W1.heap.size 0 (encC c).toArray rfl rfl hth Tryz.confSize (all_oneCell_toArray (encC_one' ho)) ?_)
 generalize W1.alloc (.cells #[.slice none 0 0, .slice none 0 0, .slice none 0 0, .slice none 0 0, .int .i64 0, .int .i64 0, .int .i64 0, .int .i64 0, .int .i64 0, .int .i64 0, .int .i64 0, .int .i64 0, .int .i64 0, .int .i64 0, .int .i64 0, .int .i64 0, .int .i64 0, .int .i64 0, .int .i64 0, .int .i64 0] 31) = Wz at hbz hxz hth ⊢
 obtain ⟨b8, hbe⟩ : ∃ b, W1.heap.size = b := ⟨_, rfl⟩
 rw [hbe] at hbz hth ⊢
 have hbb8 : w.heap.size ≤ b8 := by have := (E1).size; omega
 have hrs := World.rangeAt_setCells_same Wz b8 0 (encC c) hth
 obtain ⟨cs, hcs1, hcs2⟩ := setCells_block b8 31 (0, 0) (encC c) 0 Wz _ hbz
 have hk5 := keeps_setCells b8 (encC c) 0 Wz
 show Code.wp _ _ _ _ (Wz.setCells b8 0 (encC c))
 generalize Wz.setCells b8 0 (encC c) = W2 at hrs hk5 hcs1 ⊢
 have HB2 := hide (show BoxC W2 b8 c from BoxC.of_range hcs1 (by rw [hcs2]; rfl) hrs)
 have HX2 := hide (Keeps.ext ((E1).trans hxz) hk5 (fun g hg => by omega))
 have HO2 := hide (((ho).ext hxz).keepT hk5 (OfT.one hbz) (by decide) (by decide) (by decide) (by decide) (by decide) (by decide) (by decide))
 have hGb8 : W1.heap.size ≤ b8 := by omega
 have hEb8 : Ext W1 W2 := ((Keeps.of_ext hxz).trans hk5 : Keeps (fun g => g = b8) W1 W2).below (Nat.le_refl _) (fun g hg => by omega)
 clear hrs hk5 hcs1 hcs2 hbz hxz hth
 have HSA2 := hide (hsa.ext hEb8)
 clear ho hsa E1 hEb8
 go_wp2_with fail
 refine (HPA.out _).mono ?_
 rintro e W3 ⟨t, rfl, hsn, E3⟩
 have hpp := pathN_path (arN n 1000000)
 rw [← hsn] at hpp
 have hz1 : t.size ≤ 9223372036854775807 := by
  have e : (bl t).length = t.size := by simp [bl]
  omega
 have HPP := hide hpp.1
 have HZ1 := hide hz1
 have HX3 := hide (HX2.out.trans E3)
 have HE3 := hide E3
 clear hpp hsn hz1 E3 HPA
 go_wp2_with fail
 refine (HHD.out _ HX3.out).mono ?_
 rintro e W4 ⟨v2, D, rfl, hD, hzD, E4⟩
 have HD := hide hD
 obtain ⟨_, x9, y9, rfl⟩ := hD.shape
 have HX4 := hide (HX3.out.trans E4)
 have hE24 := HE3.out.trans E4
 have HB4 := hide (HB2.out.ext hE24)
 have HO4 := hide (HO2.out.ext hE24)
 obtain ⟨d, bt, bs, br, nb, Rs, g, hi, hcd⟩ := HSA2.out.ext hE24
 have hdc := core_R hcd
 have hrc := hi.rs.trans hdc
 have hlr : Rs.length = c.R.length := by simpa using congrArg List.length hrc
 have hic : rowR d.R = rowR c.R := rowR_core hdc
 have htb := hi.tab
 rw [hic] at htb
 have htm : ∀ x ∈ rowR c.R, 0 ≤ x ∧ x < Rs.length := fun x hx => by rw [hlr]; exact rowR_mem hx
 have hfe : findI Rs (rowR c.R) (bl t) D = found c.R (bl t) D := findI_core hrc _ _ _
 have hfs := genC_found HCC.out HPP.out D
 have c21 := hi.box.cell 21 _ rfl
 have hrv := HO4.out.r
 obtain ⟨xa, xc, hxr⟩ := owns_shape hrv
 have hrs : Rules W4 (.slice xa c.R.length xc) c.R := by rw [← hxr]; exact Sl.of_own' encR_len hrv
 have c2 : W4.cell? ⟨b8, 2, none⟩ = some (.slice xa c.R.length xc) := by rw [← hxr]; exact HB4.out.cell 2 _ rfl
 have hlb := World.block_lt_of_cell? W4 _ c21
 have hlb8 := World.block_lt_of_cell? W4 _ c2
 have hcz : ∀ X, Ext W4 X → X.cell? ⟨ba, 21, none⟩ = some (.pointer (some ⟨bt, 0, none⟩)) ∧ X.cell? ⟨b8, 2, none⟩ = some (.slice xa c.R.length xc) := fun X hX => ⟨(hX.cell (p := ⟨ba, 21, none⟩) hlb).trans c21, (hX.cell (p := ⟨b8, 2, none⟩) hlb8).trans c2⟩
 have HCZ := hide hcz
 obtain ⟨z, hz⟩ : ∃ z, (found c.R (bl t) D).getD 0 = z := ⟨_, rfl⟩
 have hfind := fun X (hX : Ext W4 X) => find_any _ bt Rs (rowR c.R) t D (.slice x9 D.length y9) X (htb.ext hX) htm HZ1.out (HM.out.ext (HX4.out.trans hX)) (HD.out.ext hX)
 have hrf := fun X (hX : Ext W4 X) => rfind_any c.R t D (.slice xa c.R.length xc) (.slice x9 D.length y9) X (hrs.ext hX) (fun r hr => ((HO4.out.rr r hr).ok).ext hX) (genC_rules HCC.out) HZ1.out (HD.out.ext hX)
 have hln := fun X (hX : Ext W4 X) => len_any _ bt Rs _ X (htb.ext hX)
 rw [hfe, hfs, hz] at hfind
 rw [hfs, hz] at hrf
 rw [hlr] at hln
 have HFI := hide hfind
 have HRF := hide hrf
 have HLN := hide hln
 have HLV := hide (fun X (hX : Ext W4 X) => lives16_any X (HM.out.ext (HX4.out.trans hX)))
 clear hD hzD E4 hE24 hi hcd hdc hrc hlr hic htb htm hfe hfs c21 c2 hrv hxr hrs hlb hlb8 hcz hz hfind hrf hln HSA2 HB2 HO2 HX2 HX3 HE3 HB4 HO4 HCC HPP HZ1 HHD
 obtain ⟨c21, c2⟩ := HCZ.out W4 (Below.refl _ _)
 go_wp2_with fail
 refine (HFI.out _ (Below.refl _ _)).mono ?_
 rintro e W5 ⟨rfl, E5⟩
 clear c21 c2
 obtain ⟨c21, c2⟩ := HCZ.out W5 E5
 have HE5 := hide E5
 clear E5 HFI
 go_wp2_with fail
 refine (HRF.out _ HE5.out).mono ?_
 rintro e W6 ⟨rfl, E6⟩
 have HED := hide (HE5.out.trans (E6.trans ((Below.refl _ W6).drew)))
 clear c21 c2 E6 HRF HE5
 go_wp2_with fail
 go_region_held3 (fun w' => w'.cell? ⟨ba, 21, none⟩ = some (.pointer (some ⟨bt, 0, none⟩)) ∧ w'.cell? ⟨b8, 2, none⟩ = some (.slice xa c.R.length xc))
  (first
   | exact HCZ.out _ (HED.out.trans (EX.trans EY))
   | exact HCZ.out _ (HED.out.trans EX)
   | exact HCZ.out _ HED.out)
  (first
   | (go_at_call 24; refine (HLN.out _ HED.out).mono ?_; rintro e wX ⟨rfl, EX⟩)
   | (go_at_call 13; refine (HLV.out _ (HED.out.trans EX)).mono ?_; rintro e wY ⟨rfl, EY⟩))
 all_goals
  have HFF := hide (HX4.out.trans (HED.out.trans (EX.trans EY)))
  clear EX EY
  go_wp2
  go_ret
  exact ⟨rfl, HFF.out⟩
end Go.Proofs.YtopejlachgompaaGreatDoor
