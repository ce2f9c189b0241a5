import Derived.Deep.CutBlock
import Derived.Test.YtceaeiaoanhlnaaGreatDoorZske
import Derived.Test.YtceaeiaoanhlnaaGreatDoorZcbe
import Derived.Test.YtceaeiaoanhlnaaGreatDoorZrle
namespace Go.Proofs.YtceaeiaoanhlnaaGreatDoor
open Go.ChangeShapes Go.WideShapes Go.ChangeAt Go.RowKit Go.Lib Go.Shelf
theorem allAt_end {α : Type} (f : List α → α → Bool) (l : List α) : allAt f (l.take l.length) (l.drop l.length) = true := by
 rw [List.drop_length]
 rfl
set_option maxRecDepth 100000 in
set_option maxHeartbeats 16000000 in
theorem check_any (c : ConfD) (w : World) (hm : MaxV w) (hok : ConfOk w c) (hf : ConfFit c) :
  Calls Tryz.prog 24 #[c.val] w fun e w' => e = .returned (.int .i64 (chkC c)) ∧ Ext w w' := by
 obtain ⟨hS, hKs, hE, hR, hRo, hT⟩ := hok
 obtain ⟨fS, fE, fR, fl1, fl2, fl3, fl4⟩ := hf
 have hwa : ∀ w : World, Calls Tryz.prog 52 #[.agg #[.int .i64 c.w0, .int .i64 c.w1, .int .i64 c.w2, .int .i64 c.w3, .int .i64 c.w4, .int .i64 c.w5, .int .i64 c.w6]] w fun e w' => e = .returned (.int .i64 (if watchB c = false then 8 else 0)) ∧ Ext w w' := fun w => watchC_any c w
 have hnu := numMay_any c
 obtain ⟨sv, S, ev, E, rv, R, tv, T, w0, w1, w2, w3, w4, w5, w6, panic, low, high, wait, hop, life, purse, horizon, sample⟩ := c
 simp only [ConfD.val] at *
 obtain ⟨hlS, aS, cS, rfl⟩ := hS.shape
 obtain ⟨hlE, aE, cE, rfl⟩ := hE.shape
 obtain ⟨hlR, aR, cR, rfl⟩ := hR.shape
 obtain ⟨hlT, aT, cT, rfl⟩ := hT.shape
 obtain ⟨-, hcS1, hcS2⟩ := hS.cap
 obtain ⟨-, hcE1, hcE2⟩ := hE.cap
 obtain ⟨rr, hrr⟩ : ∃ z, chkC (⟨.slice aS S.length cS, S, .slice aE E.length cE, E, .slice aR R.length cR, R, .slice aT T.length cT, T, w0, w1, w2, w3, w4, w5, w6, panic, low, high, wait, hop, life, purse, horizon, sample⟩ : ConfD) = z := ⟨_, rfl⟩
 rw [hrr]
 unfold chkC at hrr
 simp only [] at hrr
 have hE0 : Ext w (w.alloc (.cells #[.slice aS S.length cS, .slice aE E.length cE, .slice aR R.length cR, .slice aT T.length cT, .int .i64 w0, .int .i64 w1, .int .i64 w2, .int .i64 w3, .int .i64 w4, .int .i64 w5, .int .i64 w6, .int .i64 panic, .int .i64 low, .int .i64 high, .int .i64 wait, .int .i64 hop, .int .i64 life, .int .i64 purse, .int .i64 horizon, .int .i64 sample] 30)) := (Below.refl _ w).alloc (Nat.le_refl _) _
 have hB : w.heap.size < (w.alloc (.cells #[.slice aS S.length cS, .slice aE E.length cE, .slice aR R.length cR, .slice aT T.length cT, .int .i64 w0, .int .i64 w1, .int .i64 w2, .int .i64 w3, .int .i64 w4, .int .i64 w5, .int .i64 w6, .int .i64 panic, .int .i64 low, .int .i64 high, .int .i64 wait, .int .i64 hop, .int .i64 life, .int .i64 purse, .int .i64 horizon, .int .i64 sample] 30)).heap.size := by simp
 have hc0 : (w.alloc (.cells #[.slice aS S.length cS, .slice aE E.length cE, .slice aR R.length cR, .slice aT T.length cT, .int .i64 w0, .int .i64 w1, .int .i64 w2, .int .i64 w3, .int .i64 w4, .int .i64 w5, .int .i64 w6, .int .i64 panic, .int .i64 low, .int .i64 high, .int .i64 wait, .int .i64 hop, .int .i64 life, .int .i64 purse, .int .i64 horizon, .int .i64 sample] 30)).cell? ⟨w.heap.size, 0, none⟩ = some (.slice aS S.length cS) := by simp
 have hc1 : (w.alloc (.cells #[.slice aS S.length cS, .slice aE E.length cE, .slice aR R.length cR, .slice aT T.length cT, .int .i64 w0, .int .i64 w1, .int .i64 w2, .int .i64 w3, .int .i64 w4, .int .i64 w5, .int .i64 w6, .int .i64 panic, .int .i64 low, .int .i64 high, .int .i64 wait, .int .i64 hop, .int .i64 life, .int .i64 purse, .int .i64 horizon, .int .i64 sample] 30)).cell? ⟨w.heap.size, 1, none⟩ = some (.slice aE E.length cE) := by simp
 have hc2 : (w.alloc (.cells #[.slice aS S.length cS, .slice aE E.length cE, .slice aR R.length cR, .slice aT T.length cT, .int .i64 w0, .int .i64 w1, .int .i64 w2, .int .i64 w3, .int .i64 w4, .int .i64 w5, .int .i64 w6, .int .i64 panic, .int .i64 low, .int .i64 high, .int .i64 wait, .int .i64 hop, .int .i64 life, .int .i64 purse, .int .i64 horizon, .int .i64 sample] 30)).cell? ⟨w.heap.size, 2, none⟩ = some (.slice aR R.length cR) := by simp
 have hc3 : (w.alloc (.cells #[.slice aS S.length cS, .slice aE E.length cE, .slice aR R.length cR, .slice aT T.length cT, .int .i64 w0, .int .i64 w1, .int .i64 w2, .int .i64 w3, .int .i64 w4, .int .i64 w5, .int .i64 w6, .int .i64 panic, .int .i64 low, .int .i64 high, .int .i64 wait, .int .i64 hop, .int .i64 life, .int .i64 purse, .int .i64 horizon, .int .i64 sample] 30)).cell? ⟨w.heap.size, 3, none⟩ = some (.slice aT T.length cT) := by simp
 have HRR := hide hrr
 have HE := hide hE0
 have HB := hide hB
 have HC0 := hide hc0
 have HC1 := hide hc1
 have HC2 := hide hc2
 have HC3 := hide hc3
 have HSV := hide hS
 have HEV := hide hE
 have HRV := hide hR
 have HTV := hide hT
 have HKS := hide hKs
 have HRO := hide hRo
 have HFS := hide fS
 have HFE := hide fE
 have HFR := hide fR
 have HM := hide hm
 have HWA := hide hwa
 have HNU := hide hnu
 clear hrr hE0 hB hc0 hc1 hc2 hc3 hS hE hR hT hKs hRo fS fE fR hm hwa hnu fl1 fl2 fl3 fl4
 by_cases h10 : 10 < S.length
 ·have h10z : (10 : Int) < S.length := by omega
  go_enter Tryz.func24, Tryz.ntmps24
  go_wp2
  go_ret
  exact ⟨by rw [← HRR.out, if_pos (.inl h10)]; rfl, HE.out⟩
 have h10z : ¬ (10 : Int) < S.length := by omega
 by_cases h40 : 40 < E.length
 ·have h40z : (40 : Int) < E.length := by omega
  go_enter Tryz.func24, Tryz.ntmps24
  go_wp2
  go_ret
  exact ⟨by rw [← HRR.out, if_pos (.inr (.inl h40))]; rfl, HE.out⟩
 have h40z : ¬ (40 : Int) < E.length := by omega
 by_cases h4 : 4 < T.length
 ·have h4z : (4 : Int) < T.length := by omega
  go_enter Tryz.func24, Tryz.ntmps24
  go_wp2
  go_ret
  exact ⟨by rw [← HRR.out, if_pos (.inr (.inr h4))]; rfl, HE.out⟩
 have h4z : ¬ (4 : Int) < T.length := by omega
 have hr2 := HRR.out
 rw [if_neg (by omega)] at hr2
 have HR2 := hide hr2
 clear HRR hr2 h10 h40 h4
 go_enter Tryz.func24, Tryz.ntmps24
 go_wp2_with fail
 clear h10z h40z h4z
 go_loopw [33] (fun v33 wr => ∃ k : Nat, v33 = .int .i64 k ∧ k ≤ S.length ∧ Hid (Ext (w.alloc (.cells #[.slice aS S.length cS, .slice aE E.length cE, .slice aR R.length cR, .slice aT T.length cT, .int .i64 w0, .int .i64 w1, .int .i64 w2, .int .i64 w3, .int .i64 w4, .int .i64 w5, .int .i64 w6, .int .i64 panic, .int .i64 low, .int .i64 high, .int .i64 wait, .int .i64 hop, .int .i64 life, .int .i64 purse, .int .i64 horizon, .int .i64 sample] 30)) wr) ∧ Hid (allAt svcB [] S = allAt svcB (S.take k) (S.drop k))) (fun i _ => S.length - (intOf i).toNat)
 case atStart => exact ⟨0, rfl, Nat.zero_le _, Below.refl _ _, rfl⟩
 case round =>
  obtain ⟨k, rfl, hk, hx, hall⟩ := hrel
  have HX := hide hx.out
  have HAL := hide hall.out
  clear hx hall
  generalize wr = wo at *
  by_cases hlt : k < S.length
  ·have hkz : (k : Int) < S.length := by omega
   have hkc : (k : Int) ≤ cS := by omega
   have hkcn : k ≤ cS := by omega
   have hcs0 : ¬ cS = 0 := by omega
   obtain ⟨_, a', c', hv, _, hc⟩ := HSV.out
   cases hv
   obtain ⟨b, off, rfl, hbb, hcc⟩ := hc k S[k] (List.getElem?_eq_getElem hlt)
   have hst := allAt_take svcB S k hlt
   have hin : S[k] ∈ S := List.getElem_mem hlt
   have hks := HKS.out _ hin
   have hfs := (HFS.out _ hin).2.2.2.2.2.2
   obtain ⟨s, hs⟩ : ∃ s, S[k] = s := ⟨_, rfl⟩
   rw [hs] at hcc hst hks hfs
   have hcl := fun X (hX : Ext w X) => serviceMay_any s (S.take k) (.slice (some ⟨b, off, none⟩) k cS) X (HM.out.ext hX) (hks.ext hX) hfs ((HSV.out.take k (by omega)).ext hX)
   obtain ⟨bt, hbt⟩ : ∃ x, svcB (S.take k) s = x := ⟨_, rfl⟩
   rw [hbt] at hcl hst
   obtain ⟨id, kv, K, work, slots, queue, bal, warm⟩ := s
   simp only [SvcD.val] at hks hcl
   obtain ⟨hlk, ak, ck, rfl⟩ := hks.shape
   have hxw := HE.out.trans HX.out
   have d0 : wo.cell? ⟨b, off + k * 7, none⟩ = some (.int .i64 id) := (hxw.cell (p := ⟨b, off + k * 7, none⟩) hbb).trans (hcc 0 _ rfl)
   have d1 : wo.cell? ⟨b, off + k * 7 + 1, none⟩ = some (.slice ak K.length ck) := (hxw.cell (p := ⟨b, off + k * 7 + 1, none⟩) hbb).trans (hcc 1 _ rfl)
   have d2 : wo.cell? ⟨b, off + k * 7 + 2, none⟩ = some (.int .i64 work) := (hxw.cell (p := ⟨b, off + k * 7 + 2, none⟩) hbb).trans (hcc 2 _ rfl)
   have d3 : wo.cell? ⟨b, off + k * 7 + 3, none⟩ = some (.int .i64 slots) := (hxw.cell (p := ⟨b, off + k * 7 + 3, none⟩) hbb).trans (hcc 3 _ rfl)
   have d4 : wo.cell? ⟨b, off + k * 7 + 4, none⟩ = some (.int .i64 queue) := (hxw.cell (p := ⟨b, off + k * 7 + 4, none⟩) hbb).trans (hcc 4 _ rfl)
   have d5 : wo.cell? ⟨b, off + k * 7 + 5, none⟩ = some (.int .i64 bal) := (hxw.cell (p := ⟨b, off + k * 7 + 5, none⟩) hbb).trans (hcc 5 _ rfl)
   have d6 : wo.cell? ⟨b, off + k * 7 + 6, none⟩ = some (.int .i64 warm) := (hxw.cell (p := ⟨b, off + k * 7 + 6, none⟩) hbb).trans (hcc 6 _ rfl)
   have hbr : b < wo.heap.size := Nat.lt_of_lt_of_le hbb hxw.size
   have hb2 : w.heap.size < wo.heap.size := Nat.lt_of_lt_of_le HB.out HX.out.size
   have m0 : wo.cell? ⟨w.heap.size, 0, none⟩ = some (.slice (some ⟨b, off, none⟩) S.length cS) := (HX.out.cell (p := ⟨w.heap.size, 0, none⟩) HB.out).trans HC0.out
   have hxb := HX.out.trans ((Below.refl _ wo).alloc (Nat.le_refl _) (.cells #[.int .i64 id, .slice ak K.length ck, .int .i64 work, .int .i64 slots, .int .i64 queue, .int .i64 bal, .int .i64 warm] 62))
   have HXB := hide hxb
   have HXD := hide (HE.out.trans (hxb.trans (Below.refl _ _).drew))
   have HCL := hide hcl
   have HST := hide hst
   clear hc hcc hin hks hfs hcl hst hbt hs hxw hbb hxb
   cases bt
   ·go_upto_region 6 with (fail)
    go_region_law (go_simp; go_at_call 47; refine (HCL.out _ HXD.out).mono ?_; rintro e wn ⟨rfl, E2⟩)
    all_goals
     go_wp2
     go_ret
     exact ⟨by rw [← HR2.out, if_pos (by rw [HAL.out, HST.out]; rfl)]; rfl, HXD.out.trans E2⟩
   ·go_upto_region 6 with (fail)
    go_region_law (go_simp; go_at_call 47; refine (HCL.out _ HXD.out).mono ?_; rintro e wn ⟨rfl, E2⟩)
    all_goals
     have hlt' := hlt
     go_wp2
     go_roundw
     case rel => exact ⟨k + 1, by go_num, hlt', HXB.out.trans ((Below.refl _ _).drew.trans E2), by rw [HAL.out, HST.out]; rfl⟩
     case measure => simp [intOf] <;> omega
  ·obtain rfl : k = S.length := by omega
   have hal := HAL.out.trans (allAt_end svcB S)
   have hr2 := HR2.out
   rw [if_neg (by rw [hal]; exact Bool.noConfusion)] at hr2
   have HR3 := hide hr2
   have m1 : wo.cell? ⟨w.heap.size, 1, none⟩ = some (.slice aE E.length cE) := (HX.out.cell (p := ⟨w.heap.size, 1, none⟩) HB.out).trans HC1.out
   clear hal hr2 HAL HR2 hlt hk
   go_wp2_with fail
   go_loopw [49] (fun v49 wr => ∃ k : Nat, v49 = .int .i64 k ∧ k ≤ E.length ∧ Hid (Ext (w.alloc (.cells #[.slice aS S.length cS, .slice aE E.length cE, .slice aR R.length cR, .slice aT T.length cT, .int .i64 w0, .int .i64 w1, .int .i64 w2, .int .i64 w3, .int .i64 w4, .int .i64 w5, .int .i64 w6, .int .i64 panic, .int .i64 low, .int .i64 high, .int .i64 wait, .int .i64 hop, .int .i64 life, .int .i64 purse, .int .i64 horizon, .int .i64 sample] 30)) wr) ∧ Hid (allAt (fun a e => endB a S e) [] E = allAt (fun a e => endB a S e) (E.take k) (E.drop k))) (fun i _ => E.length - (intOf i).toNat)
   case atStart => exact ⟨0, rfl, Nat.zero_le _, HX.out, rfl⟩
   case round =>
    clear m1
    obtain ⟨k, rfl, hk, hx, hall⟩ := hrel
    clear HX
    have HX := hide hx.out
    have HAL := hide hall.out
    clear hx hall
    generalize wr = wi at *
    by_cases hlt : k < E.length
    ·have hkz : (k : Int) < E.length := by omega
     have hkc : (k : Int) ≤ cE := by omega
     have hkcn : k ≤ cE := by omega
     have hcs0 : ¬ cE = 0 := by omega
     obtain ⟨_, a', c', hv, _, hc⟩ := HEV.out
     cases hv
     obtain ⟨b, off, rfl, hbb, hcc⟩ := hc k E[k] (List.getElem?_eq_getElem hlt)
     have hst := allAt_take (fun a e => endB a S e) E k hlt
     obtain ⟨s, hs⟩ : ∃ s, E[k] = s := ⟨_, rfl⟩
     rw [hs] at hcc hst
     have hcl := fun X (hX : Ext w X) => endMay_any s (E.take k) S (.slice (some ⟨b, off, none⟩) k cE) (.slice aS S.length cS) X ((HEV.out.take k (by omega)).ext hX) (HSV.out.ext hX)
     obtain ⟨bt, hbt⟩ : ∃ x, endB (E.take k) S s = x := ⟨_, rfl⟩
     rw [hbt] at hcl
     simp only [hbt] at hst
     obtain ⟨id, svc, zone⟩ := s
     simp only [EndD.val] at hcl
     have hxw := HE.out.trans HX.out
     have d0 : wi.cell? ⟨b, off + k * 3, none⟩ = some (.int .i64 id) := (hxw.cell (p := ⟨b, off + k * 3, none⟩) hbb).trans (hcc 0 _ rfl)
     have d1 : wi.cell? ⟨b, off + k * 3 + 1, none⟩ = some (.int .i64 svc) := (hxw.cell (p := ⟨b, off + k * 3 + 1, none⟩) hbb).trans (hcc 1 _ rfl)
     have d2 : wi.cell? ⟨b, off + k * 3 + 2, none⟩ = some (.int .i64 zone) := (hxw.cell (p := ⟨b, off + k * 3 + 2, none⟩) hbb).trans (hcc 2 _ rfl)
     have hbr : b < wi.heap.size := Nat.lt_of_lt_of_le hbb hxw.size
     have hb2 : w.heap.size < wi.heap.size := Nat.lt_of_lt_of_le HB.out HX.out.size
     have m0 : wi.cell? ⟨w.heap.size, 0, none⟩ = some (.slice aS S.length cS) := (HX.out.cell (p := ⟨w.heap.size, 0, none⟩) HB.out).trans HC0.out
     have m1 : wi.cell? ⟨w.heap.size, 1, none⟩ = some (.slice (some ⟨b, off, none⟩) E.length cE) := (HX.out.cell (p := ⟨w.heap.size, 1, none⟩) HB.out).trans HC1.out
     have hxb := HX.out.trans ((Below.refl _ wi).alloc (Nat.le_refl _) (.cells #[.int .i64 id, .int .i64 svc, .int .i64 zone] 87))
     have HXB := hide hxb
     have HXD := hide (HE.out.trans (hxb.trans (Below.refl _ _).drew))
     have HCL := hide hcl
     have HST := hide hst
     clear hc hcc hcl hst hbt hs hxw hbb hxb
     cases bt
     ·go_upto_region 12 with (fail)
      go_region_law (go_simp; go_at_call 48; refine (HCL.out _ HXD.out).mono ?_; rintro e wn ⟨rfl, E2⟩)
      all_goals
       go_wp2
       go_ret
       exact ⟨by rw [← HR3.out, if_pos (by rw [HAL.out, HST.out]; rfl)]; rfl, HXD.out.trans E2⟩
     ·go_upto_region 12 with (fail)
      go_region_law (go_simp; go_at_call 48; refine (HCL.out _ HXD.out).mono ?_; rintro e wn ⟨rfl, E2⟩)
      all_goals
       have hlt' := hlt
       go_wp2
       go_roundw
       case rel => exact ⟨k + 1, by go_num, hlt', HXB.out.trans ((Below.refl _ _).drew.trans E2), by rw [HAL.out, HST.out]; rfl⟩
       case measure => simp [intOf] <;> omega
    ·obtain rfl : k = E.length := by omega
     have hal := HAL.out.trans (allAt_end (fun a e => endB a S e) E)
     have hr2 := HR3.out
     rw [if_neg (by rw [hal]; exact Bool.noConfusion)] at hr2
     have HR4 := hide hr2
     clear hal hr2 HAL HR3 hlt hk
     have hn2 := hnew_any R T.length (.slice aR R.length cR) wi (HRV.out.ext (HE.out.trans HX.out)) (fun r hr => ⟨(HRO.out r hr).ext (HE.out.trans HX.out), (HFR.out r hr).1⟩) (HM.out.ext (HE.out.trans HX.out))
     have m2 : wi.cell? ⟨w.heap.size, 2, none⟩ = some (.slice aR R.length cR) := (HX.out.cell (p := ⟨w.heap.size, 2, none⟩) HB.out).trans HC2.out
     have m3 : wi.cell? ⟨w.heap.size, 3, none⟩ = some (.slice aT T.length cT) := (HX.out.cell (p := ⟨w.heap.size, 3, none⟩) HB.out).trans HC3.out
     obtain ⟨z, hz⟩ : ∃ z, nerr R T.length = z := ⟨_, rfl⟩
     rw [hz] at hn2
     by_cases h0 : z = 0
     ·subst h0
      have hn4 := hn2.mono (R' := fun e w' => (∃ bb, e = .returned (.tuple #[.pointer (some ⟨bb, 0, none⟩), .int .i64 0])) ∧ Ext wi w') (fun e w' h => ⟨h.2.elim (fun q => absurd rfl q.1) (fun q => by obtain ⟨_, bb, _, q, _⟩ := q; exact ⟨bb, q⟩), h.1⟩)
      have HN := hide hn4
      have HBI := hide (Nat.lt_of_lt_of_le HB.out HX.out.size)
      have hr4 := HR4.out
      rw [if_neg (by rw [hz]; exact fun h => h rfl)] at hr4
      have HR5 := hide hr4
      clear hn2 hn4 hz hr4 HR4
      go_wp2_with (go_at_call 49; refine HN.out.mono ?_; rintro e wn ⟨⟨bb, rfl⟩, E2⟩; have m2n := (E2.cell (p := ⟨w.heap.size, 2, none⟩) HBI.out).trans m2)
      have HX3 := hide (HX.out.trans E2)
      clear E2 m2 m2n m3 HN HX
      go_loopw [79] (fun v79 wr => ∃ k : Nat, v79 = .int .i64 k ∧ k ≤ R.length ∧ Hid (Ext (w.alloc (.cells #[.slice aS S.length cS, .slice aE E.length cE, .slice aR R.length cR, .slice aT T.length cT, .int .i64 w0, .int .i64 w1, .int .i64 w2, .int .i64 w3, .int .i64 w4, .int .i64 w5, .int .i64 w6, .int .i64 panic, .int .i64 low, .int .i64 high, .int .i64 wait, .int .i64 hop, .int .i64 life, .int .i64 purse, .int .i64 horizon, .int .i64 sample] 30)) wr) ∧ Hid (∀ r ∈ R.take k, leadB S r = true)) (fun i _ => R.length - (intOf i).toNat)
      case atStart => exact ⟨0, rfl, Nat.zero_le _, HX3.out, fun r hr => by simp at hr⟩
      case round =>
       obtain ⟨k, rfl, hk, hx, hall⟩ := hrel
       clear HX3
       have HX := hide hx.out
       have HAL := hide hall.out
       clear hx hall
       generalize wr = wj at *
       by_cases hlt : k < R.length
       ·have hkz : (k : Int) < R.length := by omega
        obtain ⟨dd, hd1, hd2⟩ := Tryz.ruleDesc
        obtain ⟨b, off, rfl, hbb, hc⟩ := rules_at HRV.out k hlt
        obtain ⟨r, hr⟩ : ∃ r, R[k] = r := ⟨_, rfl⟩
        have hin : r ∈ R := by rw [← hr]; exact List.getElem_mem hlt
        rw [hr] at hc
        have hxw := HE.out.trans HX.out
        have hrg : wj.rangeAt b (off + k * 19) (encR r) := fun j v hv => (hxw.cell (p := ⟨b, off + k * 19 + j, none⟩) hbb).trans (hc j v hv)
        have hok := HRO.out r hin
        obtain ⟨bt, hbt⟩ : ∃ x, leadB S r = x := ⟨_, rfl⟩
        have hcl := fun X (hX : Ext w X) => servicesThere_any r S (.slice aS S.length cS) X (hok.ext hX) (HSV.out.ext hX)
        rw [hbt] at hcl
        have hnx : bt = true → ∀ q ∈ R.take (k + 1), leadB S q = true := fun h0 x hx => by
         rw [take_snoc R k hlt] at hx
         rcases List.mem_append.1 hx with hx | hx
         ·exact HAL.out x hx
         ·rw [List.mem_singleton.1 hx, hr]; exact hbt.trans h0
        have hno : bt = false → R.all (leadB S) = false := fun h0 => by
         rw [List.all_eq_false]
         exact ⟨r, hin, by simp [hbt, h0]⟩
        have HNX := hide hnx
        have HNO := hide hno
        have HCL := hide hcl
        have HOK := hide hok
        have HRG := hide hrg
        clear hnx hno hcl hok hrg hbt hin hr hc hbb hxw
        go_upto_region 20 with (fail)
        refine wp_region_lit ?_
        refine wpList_plain rfl fun K hK => ?_
        go_simp
        refine hK _ _ ?_
        refine wpList_load_mid rfl 54 (.tmp 81) rfl b (off + k * 19) rfl (encR r) dd HRG.out hd1 hd2 Tryz.ruleSize ?_
        refine wpList_plain rfl fun K hK => ?_
        go_simp
        refine hK _ _ ?_
        have hb8 := heap_alloc_new wj (.cells #[.string ⟨#[]⟩, .bool false, .slice none 0 0, .slice none 0 0, .int .i64 0, .int .i64 0, .int .i64 0, .int .i64 0, .string ⟨#[]⟩, .slice none 0 0, .slice none 0 0, .int .i64 0, .int .i64 0, .int .i64 0, .int .i64 0, .int .i64 0, .int .i64 0, .int .i64 0, .int .i64 0] 54)
        have hth : (wj.alloc (.cells #[.string ⟨#[]⟩, .bool false, .slice none 0 0, .slice none 0 0, .int .i64 0, .int .i64 0, .int .i64 0, .int .i64 0, .string ⟨#[]⟩, .slice none 0 0, .slice none 0 0, .int .i64 0, .int .i64 0, .int .i64 0, .int .i64 0, .int .i64 0, .int .i64 0, .int .i64 0, .int .i64 0] 54)).there wj.heap.size 0 (encR r).toArray.size := fun j hj => by
         have hj' : j < 19 := hj
         rw [Nat.zero_add]
         refine ⟨?_, by simp only [World.frozen?, hb8]; simp⟩
         simp only [World.cell?, hb8]
         simp [hj']
        refine wpList_store_mid rfl 54 (.tmp 10) (.tmp 82) rfl wj.heap.size 0 (encR r).toArray rfl rfl hth Tryz.ruleSize (all_oneCell_toArray (encR_one' r HOK.out)) ?_
        refine wpList_nil ?_
        have hce : ((wj.alloc (.cells #[.string ⟨#[]⟩, .bool false, .slice none 0 0, .slice none 0 0, .int .i64 0, .int .i64 0, .int .i64 0, .int .i64 0, .string ⟨#[]⟩, .slice none 0 0, .slice none 0 0, .int .i64 0, .int .i64 0, .int .i64 0, .int .i64 0, .int .i64 0, .int .i64 0, .int .i64 0, .int .i64 0] 54)).setCells wj.heap.size 0 (encR r).toArray.toList).rangeAt wj.heap.size 0 (encR r) := World.rangeAt_setCells_same (wj.alloc (.cells #[.string ⟨#[]⟩, .bool false, .slice none 0 0, .slice none 0 0, .int .i64 0, .int .i64 0, .int .i64 0, .int .i64 0, .string ⟨#[]⟩, .slice none 0 0, .slice none 0 0, .int .i64 0, .int .i64 0, .int .i64 0, .int .i64 0, .int .i64 0, .int .i64 0, .int .i64 0, .int .i64 0] 54)) wj.heap.size 0 (encR r) hth
        have hxe : Ext wj ((wj.alloc (.cells #[.string ⟨#[]⟩, .bool false, .slice none 0 0, .slice none 0 0, .int .i64 0, .int .i64 0, .int .i64 0, .int .i64 0, .string ⟨#[]⟩, .slice none 0 0, .slice none 0 0, .int .i64 0, .int .i64 0, .int .i64 0, .int .i64 0, .int .i64 0, .int .i64 0, .int .i64 0, .int .i64 0] 54)).setCells wj.heap.size 0 (encR r).toArray.toList) := Keeps.ext ((Below.refl _ wj).alloc (Nat.le_refl _) _) (keeps_setCells wj.heap.size (encR r) 0 _) (fun g hg => by omega)
        generalize (wj.alloc (.cells #[.string ⟨#[]⟩, .bool false, .slice none 0 0, .slice none 0 0, .int .i64 0, .int .i64 0, .int .i64 0, .int .i64 0, .string ⟨#[]⟩, .slice none 0 0, .slice none 0 0, .int .i64 0, .int .i64 0, .int .i64 0, .int .i64 0, .int .i64 0, .int .i64 0, .int .i64 0, .int .i64 0] 54)).setCells wj.heap.size 0 (encR r).toArray.toList = W at hce hxe ⊢
        clear hb8 hth
        have HXW := hide (HX.out.trans hxe)
        have m0 : W.cell? ⟨w.heap.size, 0, none⟩ = some (.slice aS S.length cS) := (HXW.out.cell (p := ⟨w.heap.size, 0, none⟩) HB.out).trans HC0.out
        clear hxe
        go_upto_region 21 with (fail)
        refine wp_region_lit ?_
        refine wpList_load_mid rfl 54 (.tmp 10) rfl wj.heap.size 0 rfl (encR r) dd hce hd1 hd2 Tryz.ruleSize ?_
        cases bt
        ·go_wp2_with (go_at_call 50; refine (HCL.out _ (HE.out.trans HXW.out)).mono ?_; rintro e wn ⟨rfl, E2⟩)
         go_ret
         exact ⟨by rw [← HR5.out, if_pos (HNO.out (by trivial))]; rfl, HE.out.trans (HXW.out.trans E2)⟩
        ·go_wp2_with (go_at_call 50; refine (HCL.out _ (HE.out.trans HXW.out)).mono ?_; rintro e wn ⟨rfl, E2⟩)
         go_roundw
         case rel => exact ⟨k + 1, by go_num, hlt, HXW.out.trans E2, HNX.out (by trivial)⟩
         case measure => simp [intOf] <;> omega
       ·obtain rfl : k = R.length := by omega
        have hal : R.all (leadB S) = true := by
         rw [List.all_eq_true]
         intro x hx
         exact HAL.out x (by rw [List.take_length]; exact hx)
        have hr5 := HR5.out
        rw [if_neg (by rw [hal]; exact Bool.noConfusion)] at hr5
        have HR6 := hide hr5
        have m3 : wj.cell? ⟨w.heap.size, 3, none⟩ = some (.slice aT T.length cT) := (HX.out.cell (p := ⟨w.heap.size, 3, none⟩) HB.out).trans HC3.out
        clear hal hr5 HAL HR5 hlt hk
        go_wp2_with fail
        have HX4 := hide HX.out
        clear m3 HX
        go_loopw [92] (fun v92 wr => ∃ k : Nat, v92 = .int .i64 k ∧ k ≤ T.length ∧ Hid (Ext (w.alloc (.cells #[.slice aS S.length cS, .slice aE E.length cE, .slice aR R.length cR, .slice aT T.length cT, .int .i64 w0, .int .i64 w1, .int .i64 w2, .int .i64 w3, .int .i64 w4, .int .i64 w5, .int .i64 w6, .int .i64 panic, .int .i64 low, .int .i64 high, .int .i64 wait, .int .i64 hop, .int .i64 life, .int .i64 purse, .int .i64 horizon, .int .i64 sample] 30)) wr) ∧ Hid (∀ r ∈ T.take k, rateB r = true)) (fun i _ => T.length - (intOf i).toNat)
        case atStart => exact ⟨0, rfl, Nat.zero_le _, HX4.out, fun r hr => by simp at hr⟩
        case round =>
         obtain ⟨k, rfl, hk, hx, hall⟩ := hrel
         clear HX4
         have HX := hide hx.out
         have HAL := hide hall.out
         clear hx hall
         generalize wr = wk at *
         by_cases hlt : k < T.length
         ·have hkz : (k : Int) < T.length := by omega
          obtain ⟨_, a', c', hv, _, hc⟩ := HTV.out
          cases hv
          obtain ⟨b, off, rfl, hbb, hcc⟩ := hc k T[k] (List.getElem?_eq_getElem hlt)
          obtain ⟨r, hr⟩ : ∃ r, T[k] = r := ⟨_, rfl⟩
          have hin : r ∈ T := by rw [← hr]; exact List.getElem_mem hlt
          rw [hr] at hcc
          have hxw := HE.out.trans HX.out
          obtain ⟨bt, hbt⟩ : ∃ x, rateB r = x := ⟨_, rfl⟩
          have hcl := fun X => rateMay_any r X
          rw [hbt] at hcl
          have hnx : bt = true → ∀ q ∈ T.take (k + 1), rateB q = true := fun h0 x hx => by
           rw [take_snoc T k hlt] at hx
           rcases List.mem_append.1 hx with hx | hx
           ·exact HAL.out x hx
           ·rw [List.mem_singleton.1 hx, hr]; exact hbt.trans h0
          have hno : bt = false → T.all rateB = false := fun h0 => by
           rw [List.all_eq_false]
           exact ⟨r, hin, by simp [hbt, h0]⟩
          have HNX := hide hnx
          have HNO := hide hno
          clear hnx hno hbt hin hr
          obtain ⟨lim, win, sl⟩ := r
          simp only [RateD.val] at hcl
          have HCL := hide hcl
          have d0 : wk.cell? ⟨b, off + k * 3, none⟩ = some (.int .i64 lim) := (hxw.cell (p := ⟨b, off + k * 3, none⟩) hbb).trans (hcc 0 _ rfl)
          have d1 : wk.cell? ⟨b, off + k * 3 + 1, none⟩ = some (.int .i64 win) := (hxw.cell (p := ⟨b, off + k * 3 + 1, none⟩) hbb).trans (hcc 1 _ rfl)
          have d2 : wk.cell? ⟨b, off + k * 3 + 2, none⟩ = some (.int .i64 sl) := (hxw.cell (p := ⟨b, off + k * 3 + 2, none⟩) hbb).trans (hcc 2 _ rfl)
          have HXB := hide (HX.out.trans ((Below.refl _ wk).alloc (Nat.le_refl _) (.cells #[.int .i64 lim, .int .i64 win, .int .i64 sl] 94)))
          clear hc hcc hcl hbb hxw
          cases bt
          ·go_wp2_with (go_at_call 51; refine (HCL.out _).mono ?_; rintro e wn ⟨rfl, E2⟩)
           go_ret
           exact ⟨by rw [← HR6.out, if_pos (HNO.out (by trivial))]; rfl, HE.out.trans (HXB.out.trans E2)⟩
          ·go_wp2_with (go_at_call 51; refine (HCL.out _).mono ?_; rintro e wn ⟨rfl, E2⟩)
           go_roundw
           case rel => exact ⟨k + 1, by go_num, hlt, HXB.out.trans E2, HNX.out (by trivial)⟩
           case measure => simp [intOf] <;> omega
         ·obtain rfl : k = T.length := by omega
          have hal : T.all rateB = true := by
           rw [List.all_eq_true]
           intro x hx
           exact HAL.out x (by rw [List.take_length]; exact hx)
          have hr6 := HR6.out
          rw [if_neg (by rw [hal]; exact Bool.noConfusion)] at hr6
          have HR7 := hide hr6
          clear hal hr6 HAL HR6 hlt hk
          have hbx : BoxC (w.alloc (.cells #[.slice aS S.length cS, .slice aE E.length cE, .slice aR R.length cR, .slice aT T.length cT, .int .i64 w0, .int .i64 w1, .int .i64 w2, .int .i64 w3, .int .i64 w4, .int .i64 w5, .int .i64 w6, .int .i64 panic, .int .i64 low, .int .i64 high, .int .i64 wait, .int .i64 hop, .int .i64 life, .int .i64 purse, .int .i64 horizon, .int .i64 sample] 30)) w.heap.size (⟨.slice aS S.length cS, S, .slice aE E.length cE, E, .slice aR R.length cR, R, .slice aT T.length cT, T, w0, w1, w2, w3, w4, w5, w6, panic, low, high, wait, hop, life, purse, horizon, sample⟩ : ConfD) := BoxC.of (heap_alloc_new w _) rfl
          have hbx := hbx.ext HX.out
          have HBX := hide hbx
          have m4 := hbx.cell 4 _ rfl
          have m5 := hbx.cell 5 _ rfl
          have m6 := hbx.cell 6 _ rfl
          have m7 := hbx.cell 7 _ rfl
          have m8 := hbx.cell 8 _ rfl
          have m9 := hbx.cell 9 _ rfl
          have m10 := hbx.cell 10 _ rfl
          clear hbx
          have hw2 := HWA.out wk
          have hn2 := HNU.out
          obtain ⟨bw, hbw⟩ : ∃ x, watchB (⟨.slice aS S.length cS, S, .slice aE E.length cE, E, .slice aR R.length cR, R, .slice aT T.length cT, T, w0, w1, w2, w3, w4, w5, w6, panic, low, high, wait, hop, life, purse, horizon, sample⟩ : ConfD) = x := ⟨_, rfl⟩
          obtain ⟨bn, hbn⟩ : ∃ x, numB (⟨.slice aS S.length cS, S, .slice aE E.length cE, E, .slice aR R.length cR, R, .slice aT T.length cT, T, w0, w1, w2, w3, w4, w5, w6, panic, low, high, wait, hop, life, purse, horizon, sample⟩ : ConfD) = x := ⟨_, rfl⟩
          rw [hbw] at hw2
          rw [hbn] at hn2
          have hr7 := HR7.out
          rw [hbw, hbn] at hr7
          have HW2 := hide hw2
          have HN2 := hide hn2
          have HR8 := hide hr7
          clear hw2 hn2 hbw hbn hr7 HR7 HWA HNU
          cases bw
          ·go_wp2_with (go_at_call 52; refine HW2.out.mono ?_; rintro e wn ⟨rfl, E2⟩)
           go_ret
           exact ⟨by rw [← HR8.out]; rfl, HE.out.trans (HX.out.trans E2)⟩
          ·obtain ⟨cd, hcd1, hcd2⟩ := Tryz.confDesc
           go_upto_region 33 with (go_at_call 52; refine HW2.out.mono ?_; rintro e wn ⟨rfl, E2⟩)
           have HBN := hide (HBX.out.ext E2)
           have HXN := hide (HE.out.trans (HX.out.trans E2))
           clear E2 m4 m5 m6 m7 m8 m9 m10
           refine wp_region_lit ?_
           refine wpList_load_mid rfl 30 (.tmp 1) rfl w.heap.size 0 rfl (encC (⟨.slice aS S.length cS, S, .slice aE E.length cE, E, .slice aR R.length cR, R, .slice aT T.length cT, T, w0, w1, w2, w3, w4, w5, w6, panic, low, high, wait, hop, life, purse, horizon, sample⟩ : ConfD)) cd HBN.out.range hcd1 hcd2 Tryz.confSize ?_
           cases bn
           ·go_wp2_with (go_at_call 53; refine (HN2.out _).mono ?_; rintro e wx ⟨rfl, E3⟩)
            go_ret
            exact ⟨by rw [← HR8.out]; rfl, HXN.out.trans E3⟩
           ·go_wp2_with (go_at_call 53; refine (HN2.out _).mono ?_; rintro e wx ⟨rfl, E3⟩)
            go_ret
            exact ⟨by rw [← HR8.out]; rfl, HXN.out.trans E3⟩
     ·have hb : (z != 0) = true := by simp [h0]
      have hn3 := hn2.mono (R' := fun e w' => e = .returned (.tuple #[.pointer none, .int .i64 z]) ∧ Ext wi w') (fun e w' h => ⟨h.2.elim (fun q => q.2) (fun q => absurd q.1 h0), h.1⟩)
      have HN := hide hn3
      have HZ := hide hz
      clear hn2 hn3 hz
      go_wp2_with (go_at_call 49; refine HN.out.mono ?_; rintro e wn ⟨rfl, E2⟩)
      go_ret
      exact ⟨by rw [← HR4.out, HZ.out, if_pos h0]; rfl, HE.out.trans (HX.out.trans E2)⟩
end Go.Proofs.YtceaeiaoanhlnaaGreatDoor
