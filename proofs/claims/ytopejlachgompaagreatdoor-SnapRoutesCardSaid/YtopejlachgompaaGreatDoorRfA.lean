
/- ref01.SameTexts, ref05.Begins, On, Fits; ref01.Short. -/
import Derived.Test.YtopejlachgompaaGreatDoorPlA
import Derived.Test.YtopejlachgompaaGreatDoorZm
namespace Go.Proofs.YtopejlachgompaaGreatDoor
open Go.ChangeShapes Go.WideShapes Go.ChangeAt Go.RowKit Go.Lib Go.Shelf
def sameTexts (xs ys : List ByteArray) : Bool := decide (xs.map bl = ys.map bl)
theorem bl_inj {x y : ByteArray} : (x.toList == y.toList) = (bl x == bl y) := by rw [toL, toL]; rfl
set_option maxRecDepth 100000 in
set_option maxHeartbeats 4000000 in
theorem sameTexts_any (xs ys : List ByteArray) (u v : Value) (w : World) (hx : Strs w u xs) (hy : Strs w v ys) :
  Calls Tryz.prog 151 #[u, v] w fun e w' => e = .returned (.bool (sameTexts xs ys)) ∧ Ext w w' := by
 have HX := hide hx
 have HY := hide hy
 obtain ⟨hl1, a, cap, rfl⟩ := hx.shape
 obtain ⟨hl2, a', cap', rfl⟩ := hy.shape
 clear hx hy
 by_cases hlen : xs.length = ys.length
 ·have hlb : ((xs.length : Int) != (ys.length : Int)) = false := by simp [hlen]
  have HLEN := hide hlen; clear hlen
  go_enter Tryz.func151, Tryz.ntmps151
  go_wp2
  go_loopw [5] (fun i wr => ∃ k : Nat, k ≤ xs.length ∧ i = .int .i64 k ∧ Ext w wr ∧ (xs.take k).map bl = (ys.take k).map bl) (fun i _ => xs.length - (intOf i).toNat)
  case atStart => exact ⟨0, Nat.zero_le _, rfl, Below.refl _ _, rfl⟩
  case round =>
   obtain ⟨k, hk, rfl, hE, hT⟩ := hrel
   have HT := hide hT; clear hT
   by_cases hlt : k < xs.length
   ·have hlt2 : k < ys.length := by have := HLEN.out; omega
    obtain ⟨b, off, rfl, hbb, c0⟩ := strs_at (HX.out.ext hE) k hlt
    obtain ⟨b', off', rfl, hbb', c1⟩ := strs_at (HY.out.ext hE) k hlt2
    have htx := take_snoc xs k hlt
    have hty := take_snoc ys k hlt2
    have hgx : bl xs[k] = bl ys[k] → (xs.take (k + 1)).map bl = (ys.take (k + 1)).map bl := fun h => by rw [htx, hty, List.map_append, List.map_append, HT.out]; simp [h]
    have hgn : bl xs[k] ≠ bl ys[k] → sameTexts xs ys = false := fun h => decide_eq_false fun e => h (by
     have h1 := congrArg (fun l => l[k]?) e
     simp only [List.getElem?_map, List.getElem?_eq_getElem hlt, List.getElem?_eq_getElem hlt2, Option.map_some, Option.some.injEq] at h1
     exact h1)
    have hkz : (k : Int) < xs.length := by omega
    have hkz2 : (k : Int) < ys.length := by omega
    generalize xs[k] = x at *
    generalize ys[k] = y at *
    clear htx hty
    by_cases he : bl x = bl y
    ·have heb : (x.toList == y.toList) = true := by rw [bl_inj]; simpa using he
     have heb2 : (x.toList != y.toList) = false := by show (!(x.toList == y.toList)) = false; rw [heb]; rfl
     have HG := hide (hgx he)
     clear he hgx hgn
     go_wp2_with fail
     go_quiet (fail)
     go_wp2
     go_roundw
     case rel => exact ⟨k + 1, by omega, by go_num, Below.drewN' hE _, HG.out⟩
     case measure => simp [intOf]; omega
    ·have heb : (x.toList == y.toList) = false := by rw [bl_inj]; simpa using he
     have heb2 : (x.toList != y.toList) = true := by show (!(x.toList == y.toList)) = true; rw [heb]; rfl
     have HG := hide (hgn he)
     clear he hgx hgn
     go_wp2_with fail
     go_quiet (fail)
     go_wp2
     go_ret
     exact ⟨ret_bool HG.out.symm, Below.drewN' hE _⟩
   ·have hge : xs.length ≤ k := by omega
    have hf : sameTexts xs ys = true := decide_eq_true (by
     have := HT.out; rw [List.take_of_length_le hge, List.take_of_length_le (by have := HLEN.out; omega)] at this; exact this)
    have HF := hide hf; clear hf
    go_wp2
    go_ret
    exact ⟨ret_bool HF.out.symm, hE⟩
 ·have hlb : ((xs.length : Int) != (ys.length : Int)) = true := by simp; omega
  have hf : sameTexts xs ys = false := decide_eq_false fun e => hlen (by simpa using congrArg List.length e)
  have HF := hide hf
  clear hf hlen
  go_enter Tryz.func151, Tryz.ntmps151
  go_wp2
  go_ret
  exact ⟨ret_bool HF.out.symm, Below.refl _ _⟩
/-- ref05.Begins -/
def beg5 (p q : List UInt8) : Bool := isPath p && isPath q && beginsB p q
set_option maxRecDepth 100000 in
set_option maxHeartbeats 4000000 in
theorem beg5_any (s q : ByteArray) (w : World) (hs : s.size ≤ 9223372036854775807) (hq : q.size ≤ 9223372036854775807) :
  Calls Tryz.prog 111 #[.string s, .string q] w fun e w' => e = .returned (.bool (beg5 (bl s) (bl q))) ∧ Ext w w' := by
 have H1 := hide (fun X => parts_any s X hs)
 have H2 := hide (fun X => parts_any q X hq)
 have e1 : s.data.toList = bl s := rfl
 have e2 : q.data.toList = bl q := rfl
 rw [e1] at H1
 rw [e2] at H2
 have hbeg : isPath (bl s) = true → isPath (bl q) = true → (decide ((partsL (bl q)).length ≤ (partsL (bl s)).length) && ((partsL (bl s)).take (partsL (bl q)).length == partsL (bl q))) = beginsB (bl s) (bl q) := fun h1 h2 => begins_parts h1 h2
 have hv : beg5 (bl s) (bl q) = (isPath (bl s) && isPath (bl q) && beginsB (bl s) (bl q)) := rfl
 have HBEG := hide hbeg
 have HV := hide hv
 clear hbeg hv e1 e2 hs hq
 go_enter Tryz.func111, Tryz.ntmps111
 go_wp2_with fail
 refine (H1.out _).mono ?_
 rintro e w1 ⟨v1, rfl, hD1, E1⟩
 have HD1 := hide hD1
 have HE1 := hide E1
 clear hD1 E1
 go_wp2_with fail
 refine (H2.out _).mono ?_
 rintro e w2 ⟨v2, rfl, hD2, E2⟩
 have HD2 := hide hD2
 have HE2 := hide (HE1.out.trans E2)
 have E2' := hide E2
 clear hD2 E2
 cases h1 : isPath (bl s) with
 | false =>
  have HV2 := hide (show beg5 (bl s) (bl q) = false by rw [HV.out, h1]; rfl)
  clear h1
  go_wp2
  go_ret
  exact ⟨ret_bool HV2.out.symm, HE2.out⟩
 | true =>
  obtain ⟨D1, hm1, hl1, ho1⟩ := HD1.out h1
  obtain ⟨x1, y1, rfl⟩ := owns_shape ho1
  cases h2 : isPath (bl q) with
  | false =>
   have HV2 := hide (show beg5 (bl s) (bl q) = false by rw [HV.out, h1, h2]; rfl)
   clear h1 h2 hm1 ho1
   go_wp2
   go_ret
   exact ⟨ret_bool HV2.out.symm, HE2.out⟩
  | true =>
   obtain ⟨D2, hm2, hl2, ho2⟩ := HD2.out h2
   obtain ⟨x2, y2, rfl⟩ := owns_shape ho2
   have hb := HBEG.out h1 h2
   have hn1 : (partsL (bl s)).length = D1.length := by rw [← hm1]; simp
   have hn2 : (partsL (bl q)).length = D2.length := by rw [← hm2]; simp
   rw [hn1, hn2] at hb
   have hcap := (Sl.of_own' encS_len ho1).cap.2.1
   have hs1 : Strs w2 (.slice x1 D1.length y1) D1 := (Sl.of_own' encS_len ho1).ext E2'.out
   have hs2 : Strs w2 (.slice x2 D2.length y2) D2 := Sl.of_own' encS_len ho2
   by_cases hle : D2.length ≤ D1.length
   ·have hlez : ¬ (D2.length : Int) > D1.length := by omega
    have hcz : D2.length ≤ y1 := by omega
    have hst := sameTexts_any (D1.take D2.length) D2 (.slice x1 D2.length y1) (.slice x2 D2.length y2) w2 (hs1.take D2.length hle) hs2
    have hr : sameTexts (D1.take D2.length) D2 = beg5 (bl s) (bl q) := by
     rw [HV.out, h1, h2, ← hb, decide_eq_true hle]
     unfold sameTexts
     rw [List.map_take, hm1, hm2]
     simp only [Bool.true_and]
     cases hq : ((partsL (bl s)).take D2.length == partsL (bl q)) with
     | true => exact decide_eq_true (by simpa using hq)
     | false => exact decide_eq_false (by simpa using hq)
    rw [hr] at hst
    have HST := hide hst
    clear hst hr hb hn1 hn2 hm1 hm2 ho1 ho2 hs1 hs2 h1 h2 hcap
    go_wp2_with fail
    refine HST.out.mono ?_
    rintro e w3 ⟨rfl, E3⟩
    go_wp2
    go_ret
    exact ⟨rfl, HE2.out.trans E3⟩
   ·have hlez : (D2.length : Int) > D1.length := by omega
    have HV2 := hide (show beg5 (bl s) (bl q) = false by rw [HV.out, h1, h2, ← hb, decide_eq_false hle]; rfl)
    clear hb hn1 hn2 hm1 hm2 ho1 ho2 hs1 hs2 h1 h2 hcap
    go_wp2
    go_ret
    exact ⟨ret_bool HV2.out.symm, HE2.out⟩
theorem begins_self {p : List UInt8} : beginsB p p = true := by
 unfold beginsB Lib.trimPrefix Lib.hasPrefix
 have h : p.isPrefixOf p = true := List.isPrefixOf_iff_prefix.2 List.prefix_rfl
 rw [if_pos h, h]
 simp
set_option maxRecDepth 100000 in
set_option maxHeartbeats 4000000 in
theorem on5_any (mp p : ByteArray) (ex : Bool) (hv : Value) (w : World) (hs : p.size ≤ 9223372036854775807) (hq : mp.size ≤ 9223372036854775807) (hmp : isPath (bl mp) = true) (hsh : ∃ a n c, hv = .slice a n c) :
  Calls Tryz.prog 82 #[.agg #[.string mp, .bool ex, hv], .string p] w fun e w' => e = .returned (.bool (onB (bl mp) ex (bl p))) ∧ Ext w w' := by
 obtain ⟨ha, hn, hc, rfl⟩ := hsh
 have hx0 : Ext w (w.alloc (.cells #[.string mp, .bool ex, .slice ha hn hc] 78)) := (Below.refl _ w).alloc (Nat.le_refl _) _
 have hb0 := heap_alloc_new w (.cells #[.string mp, .bool ex, .slice ha hn hc] 78)
 have hbg := fun X => beg5_any p mp X hs hq
 have hon : onB (bl mp) ex (bl p) = (beg5 (bl p) (bl mp) && (!ex || (bl p == bl mp))) := by
  unfold onB beg5
  rw [hmp, Bool.and_true]
  cases ex with
  | false => simp
  | true =>
   by_cases he : bl mp = bl p
   ·rw [he, begins_self]; simp
   ·have h1 : (bl mp == bl p) = false := by simpa using he
    have h2 : (bl p == bl mp) = false := by simpa using fun e : bl p = bl mp => he e.symm
    rw [h1, h2]
    simp
 have HB := hide hbg
 have HX := hide hx0
 have HB0 := hide hb0
 have HON := hide hon
 clear hbg hon hs hq hmp
 go_enter Tryz.func82, Tryz.ntmps82
 go_upto_region 1 with (fail)
 clear hx0 hb0
 generalize w.alloc (.cells #[.string mp, .bool ex, .slice ha hn hc] 78) = W1 at *
 have c0 : W1.cell? ⟨w.heap.size, 0, none⟩ = some (.string mp) := by simp only [World.cell?, HB0.out]; rfl
 go_wp2_with fail
 refine (HB.out _).mono ?_
 rintro e w2 ⟨rfl, E2⟩
 have hlt : w.heap.size < W1.heap.size := (Array.getElem?_eq_some_iff.1 HB0.out).1
 have d0 : w2.cell? ⟨w.heap.size, 0, none⟩ = some (.string mp) := (E2.cell (p := ⟨w.heap.size, 0, none⟩) hlt).trans c0
 have d1 : w2.cell? ⟨w.heap.size, 1, none⟩ = some (.bool ex) := (E2.cell (p := ⟨w.heap.size, 1, none⟩) hlt).trans (by simp only [World.cell?, HB0.out]; rfl)
 have HE2 := hide (HX.out.trans E2)
 clear E2 c0
 cases hb : beg5 (bl p) (bl mp) with
 | false =>
  have HR := hide (show onB (bl mp) ex (bl p) = false by rw [HON.out, hb]; rfl)
  clear hb
  go_wp2
  go_ret
  exact ⟨ret_bool HR.out.symm, HE2.out⟩
 | true =>
  cases ex with
  | false =>
   have HR := hide (show onB (bl mp) false (bl p) = true by rw [HON.out, hb]; rfl)
   clear hb
   go_wp2
   go_ret
   exact ⟨ret_bool HR.out.symm, HE2.out⟩
  | true =>
   by_cases he : bl p = bl mp
   ·have heb : (p.toList == mp.toList) = true := by rw [bl_inj]; simpa using he
    have HR := hide (show onB (bl mp) true (bl p) = true by rw [HON.out, hb, he]; simp)
    clear hb he
    go_wp2
    go_ret
    exact ⟨ret_bool HR.out.symm, HE2.out⟩
   ·have heb : (p.toList == mp.toList) = false := by rw [bl_inj]; simpa using he
    have hebb : (bl p == bl mp) = false := by simpa using he
    have HR := hide (show onB (bl mp) true (bl p) = false by rw [HON.out, hb, hebb]; rfl)
    clear hb he hebb
    go_wp2
    go_ret
    exact ⟨ret_bool HR.out.symm, HE2.out⟩
end Go.Proofs.YtopejlachgompaaGreatDoor
