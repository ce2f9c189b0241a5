/- law08.RouteBest: the walk. -/
import Derived.StillTailTactics
import Derived.Deep.CutBlock
import Derived.Test.YtlaaapfpchnmeaaGreatDoorLwMd
import Derived.Test.YtlaaapfpchnmeaaGreatDoorGnJ
import Derived.Test.YtlaaapfpchnmeaaGreatDoorOnB
namespace Go.Proofs.YtlaaapfpchnmeaaGreatDoor
open Go.ChangeShapes Go.WideShapes Go.ChangeAt Go.RowKit Go.Lib Go.Shelf
theorem keyAt_some {R : List RuleD} {i : Nat} {r : RuleD} (h : R[i]? = some r) : keyAt R i = rk3 r.path r.ex r.H.length := by
  unfold keyAt
  rw [List.getD_eq_getElem?_getD, List.getElem?_map, h]
  rfl
set_option maxRecDepth 100000 in
set_option maxHeartbeats 16000000 in
theorem best_walk (L : List Int) (n : Int) (HN : List Int) (v hv : Value) (w : World) (hs : Ints w v L) (hL : ∀ x ∈ L, I64 x) (hn : I64 n) (hh : Ints w hv HN) (hH : ∀ x ∈ HN, I64 x) (hm : MaxV w) :
    Calls Tryz.prog 4 #[v, .int .i64 n, hv] w fun e w' => e = .returned (.bool true) ∧ Ext w w' := by
  obtain ⟨_, a, c, rfl⟩ := hs.shape
  obtain ⟨_, ah, ch, rfl⟩ := hh.shape
  have HMD := hide (made_any L _ w hs hL hm)
  have HHD := hide (fun X (hX : Ext w X) => heads_any HN (.slice ah HN.length ch) X (hh.ext hX) hH)
  have HPA := hide (fun X => pathof_any n X hn)
  have HM := hide hm
  clear hs hL hh hH hm hn
  go_enter Tryz.func4, Tryz.ntmps4
  go_wp2_with fail
  refine HMD.out.mono ?_
  rintro e w1 ⟨b, v1, Rs, Rs2, B, rfl, hcore, hB, hown, -, hros, -, hT, hcc, E1⟩
  have hl5 := rules_len hcore
  have hright := rules_right hcore
  obtain ⟨xa, xc, rfl⟩ := owns_shape hown
  have hsl : Rules w1 (.slice xa Rs.length xc) Rs := Sl.of_own' encR_len hown
  have HSL := hide hsl
  have HOK := hide (fun r hr => (hros r hr).ok : ∀ r ∈ Rs, RuleOk w1 r)
  have HT := hide hT
  have HFC := hide (fun p D => found_core hcc p D)
  have HLC := hide (core_len hcc)
  have HOC := hide (fun p => onL_core hcc p)
  have HE1 := hide E1
  clear hsl hright hT hcc E1 hown hros hcore hB HMD
  go_wp2_with fail
  refine (HHD.out _ HE1.out).mono ?_
  rintro e w2 ⟨v2, D, rfl, hD, hzD, E2⟩
  obtain ⟨_, x9, y9, rfl⟩ := hD.shape
  have HD := hide hD
  have HE2 := hide E2
  clear hD hzD HHD E2
  go_wp2_with fail
  refine (HPA.out _).mono ?_
  rintro e w3 ⟨t, rfl, hsn, E3⟩
  have hpp := pathN_path (arN n 1000000)
  rw [← hsn] at hpp
  have htz : t.size ≤ 9223372036854775807 := by
    have e : (bl t).length = t.size := by simp [bl]
    omega
  have HE3 := hide (HE2.out.trans E3)
  have HTZ := hide htz
  have hD3 := HD.out.ext E3
  obtain ⟨F, hF⟩ : ∃ F, found Rs (bl t) D = F := ⟨_, rfl⟩
  have hfind := find_any _ b Rs2 (rowR Rs2) t D (.slice x9 D.length y9) w3 (HT.out.ext HE3.out) (fun x hx => rowR_mem hx) htz (HM.out.ext (HE1.out.trans HE3.out)) hD3
  have hfe : findI Rs2 (rowR Rs2) (bl t) D = F := (HFC.out (bl t) D).trans hF
  rw [hfe] at hfind
  have hon := fun X (hX : Ext w3 X) => tabon_any _ b Rs2 t X (HT.out.ext (HE3.out.trans hX)) (by rw [HLC.out]; omega) htz (HM.out.ext (HE1.out.trans (HE3.out.trans hX)))
  rw [HLC.out, HOC.out] at hon
  have hOl := onL_len Rs (bl t) Rs.length
  obtain ⟨O, hO⟩ : ∃ O, onL Rs (bl t) Rs.length = O := ⟨_, rfl⟩
  have hhas := onL_has Rs (bl t) Rs.length
  rw [hO] at hon hOl hhas
  have HFI := hide hfind
  have HON := hide hon
  have HHAS := hide hhas
  have HFD := hide hF
  have HD3 := hide hD3
  have HSL3 := hide (HSL.out.ext HE3.out)
  have HOK3 := hide (fun r hr => (HOK.out r hr).ext HE3.out)
  have HM3 := hide (HM.out.ext (HE1.out.trans HE3.out))
  clear hpp hsn htz hfind hfe hon hO hhas hF hD3 E3 HE2 HD HPA HT HFC HOC HLC HSL HOK
  go_wp2_with fail
  refine HFI.out.mono ?_
  rintro e w4 ⟨rfl, E4⟩
  have HE4 := hide E4
  clear E4 HFI
  go_wp2_with fail
  refine (HON.out _ HE4.out).mono ?_
  rintro e w5 ⟨v5, rfl, hv5, E5⟩
  obtain ⟨_, x5, y5, rfl⟩ := hv5.shape
  have HV5 := hide hv5
  have HE5 := hide (HE4.out.trans E5)
  clear hv5 E5 HON
  have hfs := found_spec Rs (bl t) D
  rw [HFD.out] at hfs
  -- what was found, as two slots
  obtain ⟨at1, is1, hat, his, hno, hyes⟩ : ∃ (at1 : Nat) (is1 : Bool), F.getD 0 = (at1 : Int) ∧ F.isSome = is1 ∧ (is1 = false → ∀ j, j < Rs.length → fitN Rs (bl t) D j = false) ∧ (is1 = true → at1 < Rs.length ∧ fitN Rs (bl t) D at1 = true ∧ ∀ j, j < Rs.length → fitN Rs (bl t) D j = true → j ≠ at1 → aheadB Rs at1 j = true) := by
    rcases hfs with ⟨i, h1, h2, h3, h4⟩ | ⟨h1, h2⟩
    · exact ⟨i, true, by rw [h1]; rfl, by rw [h1]; rfl, (fun h => by cases h), fun _ => ⟨h2, h3, h4⟩⟩
    · exact ⟨0, false, by rw [h1]; rfl, by rw [h1]; rfl, fun _ => h2, (fun h => by cases h)⟩
  simp only [hat, his]
  have HNO := hide hno
  have HYES := hide hyes
  clear hat his hno hyes hfs HFD
  go_upto_region 8 with (fail)
  go_cut [54] from 38 to 55 (fun s54 w' => s54 = .bool false ∧ Ext w5 w')
  case first =>
    cases is1 with
    | false =>
      go_wp2_with fail
      go_meet
      case rel => exact ⟨rfl, Below.refl _ _⟩
    | true =>
      obtain ⟨h1, h2, -⟩ := HYES.out rfl
      have hcon : O.contains (at1 : Int) = true := by rw [HHAS.out at1 h1]; exact on_of_fit h2
      have hha := has_any O at1 (.slice x5 O.length y5) w5 HV5.out
      rw [hcon] at hha
      have h0 : ¬ (at1 : Int) < 0 := by omega
      have hge : ¬ (at1 : Int) ≥ Rs.length := by omega
      have HHA := hide hha
      clear hha hcon h2
      go_wp2_with fail
      refine HHA.out.mono ?_
      rintro e w6 ⟨rfl, rfl⟩
      go_wp2
      go_meet
      case rel => exact ⟨rfl, Below.refl _ _⟩
  case rest =>
    obtain ⟨rfl, hx⟩ := hcut
    have HXC := hide hx
    clear hx
    go_wp2_with fail
    go_loopw [14] (fun v14 wr => ∃ i : Nat, v14 = .int .i64 i ∧ i ≤ Rs.length ∧ Ext w5 wr) (fun i _ => Rs.length - (intOf i).toNat)
    case atStart => exact ⟨0, rfl, by omega, HXC.out⟩
    case round =>
      obtain ⟨i, rfl, hi, hext⟩ := hrel
      have HX := hide hext
      clear hext
      by_cases hlt : i < Rs.length
      · have hltz : (i : Int) < Rs.length := by omega
        obtain ⟨g, off, rfl, hgb, hcm⟩ := rules_at HSL3.out i hlt
        obtain ⟨r, hr⟩ : ∃ r, Rs[i] = r := ⟨_, rfl⟩
        have hrm : r ∈ Rs := by rw [← hr]; exact List.getElem_mem hlt
        rw [hr] at hcm
        have hgi : Rs[i]? = some r := by rw [List.getElem?_eq_getElem hlt, hr]
        have hokr := HOK3.out r hrm
        obtain ⟨_, ar, cr, hvr⟩ := hokr.1.shape
        have hk : ∀ X, Ext w3 X → X.cell? ⟨g, off + i * 19, none⟩ = some (.string r.path) ∧ X.cell? ⟨g, off + i * 19 + 1, none⟩ = some (.bool r.ex) ∧ X.cell? ⟨g, off + i * 19 + 2, none⟩ = some (.slice ar r.H.length cr) := fun X hX =>
          ⟨(hX.cell (p := ⟨g, off + i * 19, none⟩) hgb).trans (hcm 0 _ rfl), (hX.cell (p := ⟨g, off + i * 19 + 1, none⟩) hgb).trans (hcm 1 _ rfl), by rw [← hvr]; exact (hX.cell (p := ⟨g, off + i * 19 + 2, none⟩) hgb).trans (hcm 2 _ rfl)⟩
        have hW := HE5.out.trans HX.out
        have hfit := fits_any r.path t r.ex r.H D r.hv (.slice x9 D.length y9) wr HTZ.out (HM3.out.ext hW) (hokr.ext hW).1 (HD3.out.ext hW)
        have hoa := fun X (hX : Ext w3 X) => on_any r.path t r.ex r.hv X HTZ.out (HM3.out.ext hX) ⟨_, _, _, hvr⟩
        rw [hvr] at hfit
        simp only [hvr] at hoa
        have hfn : fitN Rs (bl t) D i = fitsB (bl r.path) r.ex r.H (bl t) D := by unfold fitN; rw [hgi]; rfl
        have hon2 : onN Rs (bl t) i = onB (bl r.path) r.ex (bl t) := by unfold onN; rw [hgi]
        have hhs := fun X (hX : Ext w5 X) => has_any O i (.slice x5 O.length y5) X (HV5.out.ext hX)
        simp only [HHAS.out i hlt] at hhs
        rw [← hon2] at hoa
        obtain ⟨q, hq⟩ : ∃ q, onN Rs (bl t) i = q := ⟨_, rfl⟩
        simp only [hq] at hoa hhs
        have hki := keyAt_some hgi
        obtain ⟨f, hf⟩ : ∃ f, fitsB (bl r.path) r.ex r.H (bl t) D = f := ⟨_, rfl⟩
        rw [hf] at hfit hfn
        have HK := hide hk
        have HFIT := hide hfit
        have HOA := hide hoa
        have HHS := hide hhs
        have HFN := hide hfn
        have HKI := hide hki
        have k0 := (hk _ hW).1
        have k1 := (hk _ hW).2.1
        have k2 := (hk _ hW).2.2
        clear hk hfit hoa hhs hfn hki hq hf hon2 hvr hokr hgi hrm hr hcm hW
        generalize r.path = rp at *
        generalize r.ex = rx at *
        generalize r.H.length = rh at *
        go_wp2_with fail
        refine HFIT.out.mono ?_
        rintro e w6 ⟨rfl, E6⟩
        have HE6 := hide (HX.out.trans E6)
        clear k0 k1 k2 E6 HFIT
        cases is1 with
        | false =>
          have hff : f = false := by rw [← HFN.out]; exact HNO.out rfl i hlt
          subst hff
          have k0 := (HK.out _ (HE5.out.trans HE6.out)).1
          have k1 := (HK.out _ (HE5.out.trans HE6.out)).2.1
          have k2 := (HK.out _ (HE5.out.trans HE6.out)).2.2
          go_wp2_with fail
          refine (HOA.out _ (HE5.out.trans HE6.out)).mono ?_
          rintro e w8 ⟨rfl, E8⟩
          have HE8 := hide (HE6.out.trans E8)
          clear k0 k1 k2 E8
          go_wp2_with fail
          refine (HHS.out _ HE8.out).mono ?_
          rintro e w9 ⟨rfl, rfl⟩
          go_wp2
          go_roundw
          case rel => exact ⟨i + 1, by go_num, by omega, HE8.out⟩
          case measure => simp [intOf] <;> omega
        | true =>
          obtain ⟨ha1, ha2, ha3⟩ := HYES.out rfl
          by_cases hia : i = at1
          · subst hia
            have hft : f = true := by rw [← HFN.out]; exact ha2
            subst hft
            clear ha1 ha2 ha3
            have k0 := (HK.out _ (HE5.out.trans HE6.out)).1
            have k1 := (HK.out _ (HE5.out.trans HE6.out)).2.1
            have k2 := (HK.out _ (HE5.out.trans HE6.out)).2.2
            go_wp2_with fail
            refine (HOA.out _ (HE5.out.trans HE6.out)).mono ?_
            rintro e w8 ⟨rfl, E8⟩
            have HE8 := hide (HE6.out.trans E8)
            clear k0 k1 k2 E8
            go_wp2_with fail
            refine (HHS.out _ HE8.out).mono ?_
            rintro e w9 ⟨rfl, rfl⟩
            go_wp2
            go_roundw
            case rel => exact ⟨i + 1, by go_num, by omega, HE8.out⟩
            case measure => simp [intOf] <;> omega
          · have hne : ¬ (i : Int) = at1 := by omega
            have hb1 : ((i : Int) == (at1 : Int)) = false := by simpa using hne
            have hb2 : ((i : Int) != (at1 : Int)) = true := by simpa using hne
            cases f with
            | false =>
              clear ha2 ha3
              have k0 := (HK.out _ (HE5.out.trans HE6.out)).1
              have k1 := (HK.out _ (HE5.out.trans HE6.out)).2.1
              have k2 := (HK.out _ (HE5.out.trans HE6.out)).2.2
              go_wp2_with fail
              refine (HOA.out _ (HE5.out.trans HE6.out)).mono ?_
              rintro e w8 ⟨rfl, E8⟩
              have HE8 := hide (HE6.out.trans E8)
              clear k0 k1 k2 E8
              go_wp2_with fail
              refine (HHS.out _ HE8.out).mono ?_
              rintro e w9 ⟨rfl, rfl⟩
              go_wp2
              go_roundw
              case rel => exact ⟨i + 1, by go_num, by omega, HE8.out⟩
              case measure => simp [intOf] <;> omega
            | true =>
              have hbest := best_row (ha3 i hlt HFN.out hia)
              obtain ⟨g', off', eg, hgb', hca⟩ := rules_at HSL3.out at1 ha1
              cases eg
              obtain ⟨r2, hr2⟩ : ∃ r, Rs[at1] = r := ⟨_, rfl⟩
              have hrm2 : r2 ∈ Rs := by rw [← hr2]; exact List.getElem_mem ha1
              rw [hr2] at hca
              have hka := keyAt_some (show Rs[at1]? = some r2 by rw [List.getElem?_eq_getElem ha1, hr2])
              obtain ⟨_, aq, cq, hvq⟩ := (HOK3.out r2 hrm2).1.shape
              rw [HKI.out, hka] at hbest
              have hW6 := HE5.out.trans HE6.out
              have q0 : w6.cell? ⟨g, off + at1 * 19, none⟩ = some (.string r2.path) := (hW6.cell (p := ⟨g, off + at1 * 19, none⟩) hgb).trans (hca 0 _ rfl)
              have q1 : w6.cell? ⟨g, off + at1 * 19 + 1, none⟩ = some (.bool r2.ex) := (hW6.cell (p := ⟨g, off + at1 * 19 + 1, none⟩) hgb).trans (hca 1 _ rfl)
              have q2 : w6.cell? ⟨g, off + at1 * 19 + 2, none⟩ = some (.slice aq r2.H.length cq) := by rw [← hvq]; exact (hW6.cell (p := ⟨g, off + at1 * 19 + 2, none⟩) hgb).trans (hca 2 _ rfl)
              have k0 := (HK.out _ hW6).1
              have k1 := (HK.out _ hW6).2.1
              have k2 := (HK.out _ hW6).2.2
              have hcmp := fun X => cmp_any rp r2.path rx r2.ex ar aq rh cr r2.H.length cq X
              obtain ⟨z, hz⟩ : ∃ z, cmp3 (rk3 rp rx rh) (rk3 r2.path r2.ex r2.H.length) = z := ⟨_, rfl⟩
              rw [hz] at hcmp hbest
              have HCMP := hide hcmp
              have HB := hide hbest
              have ha1z : (at1 : Int) < Rs.length := by omega
              clear hcmp hbest hz hvq hka hca hrm2 hr2 hW6 ha2 ha3
              generalize r2.path = qp at *
              generalize r2.ex = qx at *
              generalize r2.H.length = qh at *
              go_upto_region 17 with (fail)
              go_still_tail 10, (by kernel_rfl)
              change wpList _ _ _ _ _ w6.drew
              have hEd : Ext w6 w6.drew := (Below.refl _ _).drew
              clear k0 k1 k2 q0 q1 q2
              generalize w6.drew = w6d at *
              have HED := hide hEd
              clear hEd
              go_wp2_with fail
              refine (HCMP.out _).mono ?_
              rintro e w7 ⟨rfl, E7⟩
              have HE7 := hide (HE6.out.trans (HED.out.trans E7))
              clear E7
              have hzn := HB.out.1
              by_cases hz0 : z = 0
              · subst hz0
                have hlta : ¬ (i : Int) < at1 := by have := HB.out.2 rfl; omega
                have k0 := (HK.out _ (HE5.out.trans HE7.out)).1
                have k1 := (HK.out _ (HE5.out.trans HE7.out)).2.1
                have k2 := (HK.out _ (HE5.out.trans HE7.out)).2.2
                go_wp2_with fail
                refine (HOA.out _ (HE5.out.trans HE7.out)).mono ?_
                rintro e w8 ⟨rfl, E8⟩
                have HE8 := hide (HE7.out.trans E8)
                clear k0 k1 k2 E8
                go_wp2_with fail
                refine (HHS.out _ HE8.out).mono ?_
                rintro e w9 ⟨rfl, rfl⟩
                go_wp2
                go_roundw
                case rel => exact ⟨i + 1, by go_num, by omega, HE8.out⟩
                case measure => simp [intOf] <;> omega
              · have hz1 : (z == 0) = false := by simpa using hz0
                have k0 := (HK.out _ (HE5.out.trans HE7.out)).1
                have k1 := (HK.out _ (HE5.out.trans HE7.out)).2.1
                have k2 := (HK.out _ (HE5.out.trans HE7.out)).2.2
                go_wp2_with fail
                refine (HOA.out _ (HE5.out.trans HE7.out)).mono ?_
                rintro e w8 ⟨rfl, E8⟩
                have HE8 := hide (HE7.out.trans E8)
                clear k0 k1 k2 E8
                go_wp2_with fail
                refine (HHS.out _ HE8.out).mono ?_
                rintro e w9 ⟨rfl, rfl⟩
                go_wp2
                go_roundw
                case rel => exact ⟨i + 1, by go_num, by omega, HE8.out⟩
                case measure => simp [intOf] <;> omega
      · obtain rfl : i = Rs.length := by omega
        have hlv := lives_any wr (HM3.out.ext (HE5.out.trans HX.out))
        have HLV := hide hlv
        clear hlv
        go_wp2_with fail
        refine HLV.out.mono ?_
        rintro e w12 ⟨rfl, E12⟩
        go_wp2
        go_ret
        exact ⟨rfl, HE1.out.trans (HE3.out.trans (HE5.out.trans (HX.out.trans E12)))⟩
end Go.Proofs.YtlaaapfpchnmeaaGreatDoor
