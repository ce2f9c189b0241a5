
/- ref08.Find and ref08.On. -/
import Derived.StillTailTactics
import Derived.Test.YtopejlachgompaaGreatDoorRfC
import Derived.Test.YtopejlachgompaaGreatDoorZl
namespace Go.Proofs.YtopejlachgompaaGreatDoor
open Go.ChangeShapes Go.WideShapes Go.ChangeAt Go.RowKit Go.Lib Go.Shelf
/-- what the document's Find has come to, ahead of the i-th rule -/
def FindTo (R : List RuleD) (p : List UInt8) (H : List HeadD) (i at1 : Nat) (is1 : Bool) : Prop :=
 (is1 = false → at1 = 0 ∧ ∀ j, j < i → fitN R p H j = false) ∧ (is1 = true → at1 < i ∧ fitN R p H at1 = true ∧ ∀ j, j < i → fitN R p H j = true → j ≠ at1 → aheadB R at1 j = true)
theorem aheadB_lex (R : List RuleD) (i j : Nat) : aheadB R i j = lexLt (ltOf (cfK (R.map keyR))) (i : Int) (j : Int) := by
 unfold aheadB lexLt Go.Proofs.ltOf cfK keyAt
 simp only [Int.toNat_natCast]
 have e : ((i : Int) < (j : Int)) ↔ i < j := by omega
 simp only [e]
theorem ahead_trans {R : List RuleD} {i j k : Nat} (h1 : aheadB R i j = true) (h2 : aheadB R j k = true) : aheadB R i k = true := by
 rw [aheadB_lex] at *
 exact (lex_swo (cfK_swo (R.map keyR))).trans _ _ _ h1 h2
theorem findTo_zero (R : List RuleD) (p : List UInt8) (H : List HeadD) : FindTo R p H 0 0 false := ⟨fun _ => ⟨rfl, fun j hj => by omega⟩, fun h => by cases h⟩
theorem findTo_no {R : List RuleD} {p : List UInt8} {H : List HeadD} {i at1 : Nat} {is1 : Bool} (h : FindTo R p H i at1 is1) (hf : fitN R p H i = false) : FindTo R p H (i + 1) at1 is1 := by
 refine ⟨fun e => ⟨(h.1 e).1, fun j hj => ?_⟩, fun e => ⟨by have := (h.2 e).1; omega, (h.2 e).2.1, fun j hj hfj hne => ?_⟩⟩
 ·rcases Nat.lt_succ_iff_lt_or_eq.1 hj with hj | rfl
  ·exact (h.1 e).2 j hj
  ·exact hf
 ·rcases Nat.lt_succ_iff_lt_or_eq.1 hj with hj | rfl
  ·exact (h.2 e).2.2 j hj hfj hne
  ·rw [hf] at hfj; cases hfj
theorem findTo_first {R : List RuleD} {p : List UInt8} {H : List HeadD} {i at1 : Nat} (h : FindTo R p H i at1 false) (hf : fitN R p H i = true) : FindTo R p H (i + 1) i true := by
 refine ⟨fun e => (by cases e), fun _ => ⟨by omega, hf, fun j hj hfj hne => ?_⟩⟩
 have := (h.1 rfl).2 j (by omega)
 rw [this] at hfj
 cases hfj
theorem findTo_less {R : List RuleD} {p : List UInt8} {H : List HeadD} {i at1 : Nat} (h : FindTo R p H i at1 true) (hf : fitN R p H i = true) (hc : cmp3 (keyAt R i) (keyAt R at1) < 0) : FindTo R p H (i + 1) i true := by
 have hia : aheadB R i at1 = true := by unfold aheadB; rw [decide_eq_true hc]; rfl
 refine ⟨fun e => (by cases e), fun _ => ⟨by omega, hf, fun j hj hfj hne => ?_⟩⟩
 by_cases hja : j = at1
 ·subst hja; exact hia
 ·exact ahead_trans hia ((h.2 rfl).2.2 j (by omega) hfj hja)
theorem findTo_keep {R : List RuleD} {p : List UInt8} {H : List HeadD} {i at1 : Nat} (h : FindTo R p H i at1 true) (hc : ¬ cmp3 (keyAt R i) (keyAt R at1) < 0) : FindTo R p H (i + 1) at1 true := by
 refine ⟨fun e => (by cases e), fun _ => ⟨by have := (h.2 rfl).1; omega, (h.2 rfl).2.1, fun j hj hfj hne => ?_⟩⟩
 rcases Nat.lt_succ_iff_lt_or_eq.1 hj with hj | rfl
 ·exact (h.2 rfl).2.2 j hj hfj hne
 ·unfold aheadB
  rw [decide_eq_false hc, decide_eq_true (h.2 rfl).1]
  simp
theorem findTo_end {R : List RuleD} {p : List UInt8} {H : List HeadD} {at1 : Nat} {is1 : Bool} (h : FindTo R p H R.length at1 is1) : (found R p H).getD 0 = (at1 : Int) ∧ (found R p H).isSome = is1 := by
 cases is1 with
 | false =>
  obtain ⟨rfl, hn⟩ := h.1 rfl
  rw [found_none.2 hn]
  exact ⟨rfl, rfl⟩
 | true =>
  obtain ⟨h1, h2, h3⟩ := h.2 rfl
  rw [found_eq h1 h2 (fun j hj hfj hne => ahead_asymm _ _ _ (h3 j hj hfj hne))]
  exact ⟨rfl, rfl⟩
set_option maxRecDepth 100000 in
set_option maxHeartbeats 16000000 in
theorem rfind_any (R : List RuleD) (p : ByteArray) (H : List HeadD) (v l : Value) (w : World) (hR : Rules w v R) (hok : ∀ r ∈ R, RuleOk w r) (hsz : ∀ r ∈ R, r.path.size ≤ 9223372036854775807 ∧ isPath (bl r.path) = true) (hs : p.size ≤ 9223372036854775807) (hl : Heads w l H) :
  Calls Tryz.prog 23 #[v, .string p, l] w fun e w' => e = .returned (.tuple #[.int .i64 ((found R (bl p) H).getD 0), .bool (found R (bl p) H).isSome]) ∧ Ext w w' := by
 obtain ⟨hlr, a, c, rfl⟩ := hR.shape
 obtain ⟨_, a2, c2, rfl⟩ := hl.shape
 have HR := hide hR
 have HOK := hide hok
 have HSZ := hide hsz
 have HS := hide hs
 have HL := hide hl
 clear hR hok hsz hs hl
 go_enter Tryz.func23, Tryz.ntmps23
 go_wp2_with fail
 go_loopw [8, 9, 10] (fun v8 v9 v10 wr => ∃ (i at1 : Nat) (is1 : Bool), v10 = .int .i64 i ∧ i ≤ R.length ∧ v8 = .int .i64 at1 ∧ v9 = .bool is1 ∧ Hid (FindTo R (bl p) H i at1 is1) ∧ Ext w wr) (fun _ _ i _ => R.length - (intOf i).toNat)
 case atStart => exact ⟨0, 0, false, rfl, by omega, rfl, rfl, findTo_zero _ _ _, Below.refl _ _⟩
 case round =>
  obtain ⟨i, at1, is1, rfl, hi, rfl, rfl, hft, hext⟩ := hrel
  have HFT := hide hft
  have HX := hide hext
  clear hft hext
  by_cases hlt : i < R.length
  ·obtain ⟨b, off, rfl, hbb, hc⟩ := rules_at HR.out i hlt
   obtain ⟨r, hr⟩ : ∃ r, R[i] = r := ⟨_, rfl⟩
   have hrm : r ∈ R := by rw [← hr]; exact List.getElem_mem hlt
   rw [hr] at hc
   have hokr := (HOK.out r hrm).ext HX.out
   obtain ⟨_, ar, cr, hvr⟩ := hokr.1.shape
   have k0 : wr.cell? ⟨b, off + i * 19, none⟩ = some (.string r.path) := (HX.out.cell (p := ⟨b, off + i * 19, none⟩) hbb).trans (hc 0 _ rfl)
   have k1 : wr.cell? ⟨b, off + i * 19 + 1, none⟩ = some (.bool r.ex) := (HX.out.cell (p := ⟨b, off + i * 19 + 1, none⟩) hbb).trans (hc 1 _ rfl)
   have k2 : wr.cell? ⟨b, off + i * 19 + 2, none⟩ = some (.slice ar r.H.length cr) := by rw [← hvr]; exact (HX.out.cell (p := ⟨b, off + i * 19 + 2, none⟩) hbb).trans (hc 2 _ rfl)
   have hfit := fits5_any r.path p r.ex r.H H r.hv (.slice a2 H.length c2) wr HS.out (HSZ.out r hrm).1 (HSZ.out r hrm).2 hokr.1 (HL.out.ext HX.out)
   rw [hvr] at hfit
   have hgi : R[i]? = some r := by rw [List.getElem?_eq_getElem hlt, hr]
   have hfn : fitN R (bl p) H i = fitsB (bl r.path) r.ex r.H (bl p) H := by unfold fitN; rw [hgi]; rfl
   have hki : keyAt R i = rk3 r.path r.ex r.H.length := by
    unfold keyAt
    rw [List.getD_eq_getElem?_getD, List.getElem?_map, hgi]
    rfl
   obtain ⟨f, hf⟩ : ∃ f, fitsB (bl r.path) r.ex r.H (bl p) H = f := ⟨_, rfl⟩
   rw [hf] at hfit hfn
   have hiz : (i : Int) < R.length := by omega
   have HFIT := hide hfit
   have HFN := hide hfn
   have HKI := hide hki
   have HCI := hide hc
   have HPI := hide (HSZ.out r hrm)
   clear hfit hfn hki hokr hgi hf hr hrm hc
   go_wp2_with fail
   refine HFIT.out.mono ?_
   rintro e w5 ⟨rfl, E5⟩
   have HE5 := hide (HX.out.trans E5)
   clear k0 k1 k2 E5 HFIT
   cases f with
   | false =>
    have HN := hide (findTo_no HFT.out HFN.out)
    go_wp2_with fail
    go_quiet (fail)
    rename_i nq
    have hEn : Ext w (w5.drewN nq) := HE5.out.trans (Below.drewN' (Below.refl _ _) _)
    generalize w5.drewN nq = w6 at *
    go_wp2
    go_roundw
    case rel => exact ⟨i + 1, at1, is1, by go_num, by omega, rfl, rfl, HN.out, hEn⟩
    case measure => simp [intOf] <;> omega
   | true =>
    cases is1 with
    | false =>
     have HN := hide (findTo_first HFT.out HFN.out)
     go_wp2_with fail
     go_quiet (fail)
     rename_i nq
     have hEn : Ext w (w5.drewN nq) := HE5.out.trans (Below.drewN' (Below.refl _ _) _)
     generalize w5.drewN nq = w6 at *
     go_wp2
     go_roundw
     case rel => exact ⟨i + 1, i, true, by go_num, by omega, rfl, rfl, HN.out, hEn⟩
     case measure => simp [intOf] <;> omega
    | true =>
     have hat := (HFT.out.2 rfl).1
     have hatl : at1 < R.length := by omega
     obtain ⟨b', off', eb, hbb', hc'⟩ := rules_at HR.out at1 hatl
     cases eb
     obtain ⟨q, hq⟩ : ∃ q, R[at1] = q := ⟨_, rfl⟩
     have hqm : q ∈ R := by rw [← hq]; exact List.getElem_mem hatl
     rw [hq] at hc'
     obtain ⟨_, aq, cq, hvq⟩ := (HOK.out q hqm).1.shape
     have hka : keyAt R at1 = rk3 q.path q.ex q.H.length := by
      unfold keyAt
      rw [List.getD_eq_getElem?_getD, List.getElem?_map, List.getElem?_eq_getElem hatl, hq]
      rfl
     have k0 : w5.cell? ⟨b, off + i * 19, none⟩ = some (.string r.path) := (HE5.out.cell (p := ⟨b, off + i * 19, none⟩) hbb).trans (HCI.out 0 _ rfl)
     have k1 : w5.cell? ⟨b, off + i * 19 + 1, none⟩ = some (.bool r.ex) := (HE5.out.cell (p := ⟨b, off + i * 19 + 1, none⟩) hbb).trans (HCI.out 1 _ rfl)
     have k2 : w5.cell? ⟨b, off + i * 19 + 2, none⟩ = some (.slice ar r.H.length cr) := by rw [← hvr]; exact (HE5.out.cell (p := ⟨b, off + i * 19 + 2, none⟩) hbb).trans (HCI.out 2 _ rfl)
     have q0 : w5.cell? ⟨b, off + at1 * 19, none⟩ = some (.string q.path) := (HE5.out.cell (p := ⟨b, off + at1 * 19, none⟩) hbb).trans (hc' 0 _ rfl)
     have q1 : w5.cell? ⟨b, off + at1 * 19 + 1, none⟩ = some (.bool q.ex) := (HE5.out.cell (p := ⟨b, off + at1 * 19 + 1, none⟩) hbb).trans (hc' 1 _ rfl)
     have q2 : w5.cell? ⟨b, off + at1 * 19 + 2, none⟩ = some (.slice aq q.H.length cq) := by rw [← hvq]; exact (HE5.out.cell (p := ⟨b, off + at1 * 19 + 2, none⟩) hbb).trans (hc' 2 _ rfl)
     have hcmp := fun X => cmp5_any r.path q.path r.ex q.ex ar aq r.H.length cr q.H.length cq X HPI.out.1 (HSZ.out q hqm).1 HPI.out.2 (HSZ.out q hqm).2
     obtain ⟨z, hz⟩ : ∃ z, cmp3 (rk3 r.path r.ex r.H.length) (rk3 q.path q.ex q.H.length) = z := ⟨_, rfl⟩
     rw [hz] at hcmp
     have hkz : cmp3 (keyAt R i) (keyAt R at1) = z := by rw [HKI.out, hka, hz]
     have HCMP := hide hcmp
     have HKZ := hide hkz
     have hatz : (at1 : Int) < R.length := by omega
     clear hcmp hkz hz hka hvq hc' hqm hq hvr
     generalize r.path = rp at *
     generalize r.ex = rx at *
     generalize r.H.length = rh at *
     generalize q.path = qp at *
     generalize q.ex = qx at *
     generalize q.H.length = qh at *
     go_upto_region 7 with (fail)
     go_still_tail 15, (by kernel_rfl)
     change wpList _ _ _ _ _ w5.drew
     have hEd : Ext w5 w5.drew := (Below.refl _ _).drew
     clear k0 k1 k2 q0 q1 q2
     generalize w5.drew = w6 at *
     have HED := hide hEd
     clear hEd
     go_wp2_with fail
     refine (HCMP.out _).mono ?_
     rintro e w7 ⟨rfl, E7⟩
     have HE7 := hide (HE5.out.trans (HED.out.trans E7))
     clear E7
     by_cases hz0 : z < 0
     ·have HN := hide (findTo_less HFT.out HFN.out (by rw [HKZ.out]; exact hz0))
      go_wp2
      go_roundw
      case rel => exact ⟨i + 1, i, true, by go_num, by omega, rfl, rfl, HN.out, HE7.out⟩
      case measure => simp [intOf] <;> omega
     ·have HN := hide (findTo_keep HFT.out (by rw [HKZ.out]; exact hz0))
      go_wp2
      go_roundw
      case rel => exact ⟨i + 1, at1, true, by go_num, by omega, rfl, rfl, HN.out, HE7.out⟩
      case measure => simp [intOf] <;> omega
  ·obtain rfl : i = R.length := by omega
   have he := findTo_end HFT.out
   have HE := hide he
   clear he
   go_wp2
   go_ret2
   exact ⟨by rw [HE.out.1, HE.out.2]; rfl, HX.out⟩
end Go.Proofs.YtopejlachgompaaGreatDoor
