/- law08.RouteFinds: the walk. -/
import Derived.Deep.RegionHeld3
import Derived.Test.YtlaaapfpchnmeaaGreatDoorRef01b
import Derived.Test.YtlaaapfpchnmeaaGreatDoorLwMd
import Derived.Test.YtlaaapfpchnmeaaGreatDoorGnX
import Derived.Test.YtlaaapfpchnmeaaGreatDoorGnJ
import Derived.Test.YtlaaapfpchnmeaaGreatDoorOnB
namespace Go.Proofs.YtlaaapfpchnmeaaGreatDoor
open Go.ChangeShapes Go.WideShapes Go.ChangeAt Go.RowKit Go.Lib Go.Shelf
theorem strs_new3 (w : World) (a b c : ByteArray) (T : TypeId) : Strs (w.alloc (.cells #[.string a, .string b, .string c] T)) (.slice (some ⟨w.heap.size, 0, none⟩) 3 3) [a, b, c] := by
  have h := World.ownsRow_lit (base := 0) (e := T) (size := 1) w #[.string a, .string b, .string c] 3 (Nat.zero_le _) (by unfold maxLen; omega) rfl
  exact Sl.of_own' (enc := encS) (fun _ => rfl) (base := 0) (e := T) h
set_option maxRecDepth 100000 in
set_option maxHeartbeats 16000000 in
theorem finds_walk (L : List Int) (n : Int) (HN : List Int) (s : ByteArray) (v hv : Value) (w : World) (hs : Ints w v L) (hL : ∀ x ∈ L, I64 x) (hn : I64 n) (hh : Ints w hv HN) (hH : ∀ x ∈ HN, I64 x) (hsz : s.size ≤ 9223372036854775807) (hm : MaxV w) :
    Calls Tryz.prog 3 #[v, .int .i64 n, hv, .string s] w fun e w' => e = .returned (.bool true) ∧ Ext w w' := by
  obtain ⟨_, a, c, rfl⟩ := hs.shape
  obtain ⟨_, ah, ch, rfl⟩ := hh.shape
  have HMD := hide (made_any L _ w hs hL hm)
  have HHD := hide (fun X (hX : Ext w X) => heads_any HN (.slice ah HN.length ch) X (hh.ext hX) hH)
  have HPA := hide (fun X => pathof_any n X hn)
  have HTX := hide (fun X => text_any n X hn)
  have HSH := hide (fun X => short_any s 62 X hsz (by omega))
  have HM := hide hm
  have HSZ := hide hsz
  clear hs hL hh hH hm hn hsz
  go_enter Tryz.func3, Tryz.ntmps3
  go_wp2_with fail
  refine HMD.out.mono ?_
  rintro e w1 ⟨b, v1, Rs, Rs2, B, rfl, hcore, hB, hown, -, hros, -, hT, hcc, E1⟩
  have hl5 := rules_len hcore
  have hright := rules_right hcore
  obtain ⟨xa, xc, rfl⟩ := owns_shape hown
  have hsl : Rules w1 (.slice xa Rs.length xc) Rs := Sl.of_own' encR_len hown
  have HSL := hide hsl
  have HOK := hide (fun r hr => (hros r hr).ok : ∀ r ∈ Rs, RuleOk w1 r)
  have HRT := hide (fun r hr => ⟨(hright r hr).1.1, (hright r hr).2.2⟩ : ∀ r ∈ Rs, r.path.size ≤ 9223372036854775807 ∧ isPath (bl r.path) = true)
  have HT := hide hT
  have HFC := hide (fun p D => found_core hcc p D)
  have HLC := hide (core_len hcc)
  have HOC := hide (fun p => onL_core hcc p)
  have HE1 := hide E1
  clear hsl hright hT hcc E1 hown hros hcore hB HMD
  go_wp2_with fail
  refine (HHD.out _ HE1.out).mono ?_
  rintro e w2 ⟨v2, D, rfl, hD, hzD, E2⟩
  obtain ⟨_, x9, y9, rfl⟩ := hD.shape
  have HD := hide hD
  have HE2 := hide E2
  clear hD hzD HHD E2
  go_wp2_with fail
  refine (HPA.out _).mono ?_
  rintro e w3 ⟨t1, rfl, hsn, E3⟩
  have hpp := pathN_path (arN n 1000000)
  rw [← hsn] at hpp
  have hz1 : t1.size ≤ 9223372036854775807 := by
    have e : (bl t1).length = t1.size := by simp [bl]
    omega
  have HE3 := hide (HE2.out.trans E3)
  have HZ1 := hide hz1
  have HD3 := hide (HD.out.ext E3)
  clear hpp hsn hz1 E3 HE2 HD HPA
  go_wp2_with fail
  refine (HTX.out _).mono ?_
  rintro e w4 ⟨t2, rfl, hz2, E4⟩
  have HE4 := hide (HE3.out.trans E4)
  have HZ2 := hide (Nat.le_trans hz2 (by omega) : t2.size ≤ 9223372036854775807)
  have HD4 := hide (HD3.out.ext E4)
  clear hz2 E4 HE3 HD3 HTX
  go_wp2_with fail
  refine (HSH.out _).mono ?_
  rintro e w5 ⟨rfl, rfl⟩
  obtain ⟨t3, ht3⟩ : ∃ t3, (if 62 < s.size then s.extract 0 62 else s) = t3 := ⟨_, rfl⟩
  have hz3 : t3.size ≤ 9223372036854775807 := by
    rw [← ht3]
    split
    · rw [ByteArray.size_extract]; omega
    · exact HSZ.out
  rw [ht3]
  have HZ3 := hide hz3
  clear ht3 hz3 HSZ HSH
  go_wp2_with fail
  have hst := strs_new3 w5 t1 t2 t3 9
  have hxa : Ext w5 (w5.alloc (.cells #[.string t1, .string t2, .string t3] 9)) := (Below.refl _ _).alloc (Nat.le_refl _) _
  obtain ⟨W, hW⟩ : ∃ W, w5.alloc (.cells #[.string t1, .string t2, .string t3] 9) = W := ⟨_, rfl⟩
  obtain ⟨g, hg⟩ : ∃ g, w5.heap.size = g := ⟨_, rfl⟩
  rw [hW] at hst hxa ⊢
  rw [hg] at hst ⊢
  have htl : ([t1, t2, t3] : List ByteArray).length = 3 := rfl
  have htz : ∀ t ∈ [t1, t2, t3], t.size ≤ 9223372036854775807 := fun t ht => by
    simp only [List.mem_cons, List.mem_nil_iff, or_false] at ht
    rcases ht with rfl | rfl | rfl
    · exact HZ1.out
    · exact HZ2.out
    · exact HZ3.out
  obtain ⟨T, hT3⟩ : ∃ T, ([t1, t2, t3] : List ByteArray) = T := ⟨_, rfl⟩
  rw [hT3] at hst htl htz
  have HST := hide hst
  have HTL := hide htl
  have HTZ := hide htz
  have HE5 := hide (HE4.out.trans hxa)
  have HD5 := hide (HD4.out.ext hxa)
  clear hst htl htz hxa hT3 hW hg HE4 HD4 HZ1 HZ2 HZ3
  go_loopw [13] (fun v13 wr => ∃ k : Nat, v13 = .int .i64 k ∧ k ≤ 3 ∧ Ext W wr) (fun i _ => 3 - (intOf i).toNat)
  case atStart => exact ⟨0, rfl, by omega, Below.refl _ _⟩
  case round =>
    obtain ⟨k, rfl, hk, hext⟩ := hrel
    have HX := hide hext
    clear hext
    by_cases hlt : k < 3
    · have hltz : (k : Int) < 3 := by omega
      have hkT : k < T.length := by rw [HTL.out]; exact hlt
      obtain ⟨g', o', eg, hgb, hct⟩ := strs_at HST.out k hkT
      cases eg
      obtain ⟨t, ht⟩ : ∃ t, T[k] = t := ⟨_, rfl⟩
      have htz := HTZ.out t (by rw [← ht]; exact List.getElem_mem hkT)
      rw [ht] at hct
      have hcz : ∀ X, Ext wr X → X.cell? ⟨g, k, none⟩ = some (.string t) := fun X hX => by
        have := ((HX.out.trans hX).cell (p := ⟨g, 0 + k, none⟩) hgb).trans hct
        rwa [Nat.zero_add] at this
      have HCZ := hide hcz
      have hct0 := hcz wr (Below.refl _ _)
      have HW := hide (HE5.out.trans HX.out)
      obtain ⟨F, hF⟩ : ∃ F, found Rs (bl t) D = F := ⟨_, rfl⟩
      have hfind := find_any _ b Rs2 (rowR Rs2) t D (.slice x9 D.length y9) wr (HT.out.ext HW.out) (fun x hx => rowR_mem hx) htz (HM.out.ext (HE1.out.trans HW.out)) (HD5.out.ext HX.out)
      have hfe : findI Rs2 (rowR Rs2) (bl t) D = F := (HFC.out (bl t) D).trans hF
      rw [hfe] at hfind
      have hrf := fun X (hX : Ext wr X) => rfind_any Rs t D (.slice xa Rs.length xc) (.slice x9 D.length y9) X (HSL.out.ext (HW.out.trans hX)) (fun r hr => (HOK.out r hr).ext (HW.out.trans hX)) HRT.out htz (HD5.out.ext (HX.out.trans hX))
      rw [hF] at hrf
      have hon := fun X (hX : Ext wr X) => tabon_any _ b Rs2 t X (HT.out.ext (HW.out.trans hX)) (by rw [HLC.out]; omega) htz (HM.out.ext (HE1.out.trans (HW.out.trans hX)))
      rw [HLC.out, HOC.out] at hon
      have hro := fun X (hX : Ext wr X) => ron_any Rs t (.slice xa Rs.length xc) X (HSL.out.ext (HW.out.trans hX)) (fun r hr => (HOK.out r hr).ext (HW.out.trans hX)) HRT.out htz (by omega)
      obtain ⟨O, hO⟩ : ∃ O, onL Rs (bl t) Rs.length = O := ⟨_, rfl⟩
      rw [hO] at hon hro
      have hsa : ∀ X u v, Ints X u O → Ints X v O → Calls Tryz.prog 12 #[u, v] X fun e w' => e = .returned (.bool true) ∧ Ext X w' := fun X u v hu hv => by
        have h := sameInts_any O O u v X hu hv
        rwa [show sameInts O O = true from decide_eq_true rfl] at h
      obtain ⟨z, hz⟩ : ∃ z, F.getD 0 = z := ⟨_, rfl⟩
      obtain ⟨q, hq⟩ : ∃ q, F.isSome = q := ⟨_, rfl⟩
      rw [hz, hq] at hfind hrf
      have HFI := hide hfind
      have HRF := hide hrf
      have HON := hide hon
      have HRO := hide hro
      have HSA := hide hsa
      clear hfind hrf hon hro hsa hz hq hO hfe hF hcz hct ht htz
      go_wp2_with fail
      refine HFI.out.mono ?_
      rintro e wA ⟨rfl, EA⟩
      have hct1 := HCZ.out _ EA
      have HEA := hide EA
      clear hct0 EA HFI
      go_wp2_with fail
      refine (HRF.out _ HEA.out).mono ?_
      rintro e wB ⟨rfl, EB⟩
      have HEB := hide (HEA.out.trans EB)
      have hED : Ext wB wB.drew := (Below.refl _ _).drew
      have HED := hide (HEB.out.trans hED)
      clear hct1 EB HRF HEA hED
      go_wp2_with fail
      go_region_held3 (fun w' => w'.cell? ⟨g, k, none⟩ = some (.string t))
        (first
          | exact HCZ.out _ (HED.out.trans ((EX.trans EY).trans EC))
          | exact HCZ.out _ (HED.out.trans ((EY.trans EX).trans EC))
          | exact HCZ.out _ (HED.out.trans (EX.trans EY))
          | exact HCZ.out _ (HED.out.trans (EY.trans EX))
          | exact HCZ.out _ (HED.out.trans EX)
          | exact HCZ.out _ (HED.out.trans EY)
          | exact HCZ.out _ HED.out)
        (first
          | (go_at_call 12; refine (HSA.out _ _ _ (HA.out.ext EY) HB.out).mono ?_; rintro e wC ⟨rfl, EC⟩)
          | (go_at_call 12; refine (HSA.out _ _ _ HA.out (HB.out.ext EX)).mono ?_; rintro e wC ⟨rfl, EC⟩)
          | (go_at_call 14; refine (HRO.out _ (HED.out.trans EX)).mono ?_; rintro e wY ⟨vY, rfl, hY, EY⟩; have HB := hide hY; clear hY)
          | (go_at_call 13; refine (HON.out _ (HED.out.trans EY)).mono ?_; rintro e wX ⟨vX, rfl, hX, EX⟩; have HA := hide hX; clear hX)
          | (go_at_call 14; refine (HRO.out _ HED.out).mono ?_; rintro e wY ⟨vY, rfl, hY, EY⟩; have HB := hide hY; clear hY)
          | (go_at_call 13; refine (HON.out _ HED.out).mono ?_; rintro e wX ⟨vX, rfl, hX, EX⟩; have HA := hide hX; clear hX))
      all_goals
        have HEF : Hid (Ext W wC) := by
          first
            | exact hide (HX.out.trans (HED.out.trans ((EX.trans EY).trans EC)))
            | exact hide (HX.out.trans (HED.out.trans ((EY.trans EX).trans EC)))
        go_wp2
        go_roundw
        case rel => exact ⟨k + 1, by go_num, by omega, HEF.out⟩
        case measure => simp [intOf] <;> omega
    · obtain rfl : k = 3 := by omega
      have HW := hide (HE5.out.trans HX.out)
      have hlv := lives_any wr (HM.out.ext (HE1.out.trans HW.out))
      have HLV := hide hlv
      clear hlv
      go_wp2_with fail
      refine HLV.out.mono ?_
      rintro e w12 ⟨rfl, E12⟩
      go_wp2
      go_ret
      exact ⟨rfl, HE1.out.trans (HW.out.trans E12)⟩
end Go.Proofs.YtlaaapfpchnmeaaGreatDoor
