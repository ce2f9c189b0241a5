/- Merged texts (MtA, MtB). -/
import Derived.Test.YtopejlachgompaaGreatDoorZh

/- match: begins, On, Fits, Check; the reference's Check. -/
namespace Go.Proofs
open Go.Shelf
def Tryz.lCut_ren : Go.Shelf.Ren := ⟨fun | 103 => 148 | 210 => 171 | 206 => 153 | n => n, fun | 9 => 9 | 4 => 4 | 24 => 148 | 3 => 3 | n => n, fun | n => n⟩
theorem Tryz.lCut : Go.Proofs.Lays.n103 Tryz.prog Tryz.lCut_ren := {
  mixed := by kernel_rfl
  f103 := Tryz.func148.trans (congrArg some (by kernel_rfl))
  f206 := Tryz.func153.trans (congrArg some (by kernel_rfl))
  f210 := Tryz.func171.trans (congrArg some (by kernel_rfl))
  t3 := Tryz.underlying3
  a3 := Tryz.isAgg3
  z3 := Tryz.sizeOf3
  v3 := Tryz.zeroValue3
  t4 := Tryz.underlying4
  a4 := Tryz.isAgg4
  z4 := Tryz.sizeOf4
  v4 := Tryz.zeroValue4
  t9 := Tryz.underlying9
  a9 := Tryz.isAgg9
  z9 := Tryz.sizeOf9
  v9 := Tryz.zeroValue9
  t24 := Tryz.underlying148
  a24 := Tryz.isAgg148
  z24 := Tryz.sizeOf148
  v24 := Tryz.zeroValue148 }
end Go.Proofs
namespace Go.Proofs.YtopejlachgompaaGreatDoor
open Go.ChangeShapes Go.WideShapes Go.ChangeAt Go.RowKit Go.Lib Go.Shelf
/-- does a path begin with another one? -/
def beginsB (p q : List UInt8) : Bool := q == [47] || (Lib.hasPrefix p q && ((Lib.trimPrefix p q).isEmpty || (Lib.trimPrefix p q).head? == some 47))
def onB (mp : List UInt8) (ex : Bool) (p : List UInt8) : Bool := isPath p && (if ex then mp == p else beginsB p mp)
set_option maxRecDepth 100000 in
set_option maxHeartbeats 1000000 in
theorem begins_any (p q : ByteArray) (w : World) : Calls Tryz.prog 109 #[.string p, .string q] w fun e w' => e = .returned (.bool (beginsB (bl p) (bl q))) ∧ w = w' := by
 by_cases hq : bl q = [47]
 ·have hb : (q.toList == [47]) = true := by rw [toL]; show (bl q == [47]) = true; simpa using hq
  have HB := hide (show beginsB (bl p) (bl q) = true by unfold beginsB; rw [hq]; rfl)
  clear hq
  go_enter Tryz.func109, Tryz.ntmps109
  go_wp2
  go_ret
  exact ⟨ret_bool HB.out.symm, rfl⟩
 ·have hb : (q.toList == [47]) = false := by rw [toL]; show (bl q == [47]) = false; simpa using hq
  have hcut : ∀ u : World, Calls Tryz.prog 148 #[.string p, .string q] u fun e w' => e = .returned (.tuple #[.string ⟨(Lib.trimPrefix p.data.toList q.data.toList).toArray⟩, .bool (Lib.hasPrefix p.data.toList q.data.toList)]) ∧ u = w' := fun u => (Any.strings_CutPrefix Tryz.lCut p q u).mono (fun _ _ h => ⟨h.1, h.2.symm⟩)
  have hv : beginsB (bl p) (bl q) = (Lib.hasPrefix p.data.toList q.data.toList && ((Lib.trimPrefix p.data.toList q.data.toList).isEmpty || (Lib.trimPrefix p.data.toList q.data.toList).head? == some 47)) := by
   unfold beginsB
   have : (bl q == [47]) = false := by simpa using hq
   rw [this]; rfl
  obtain ⟨T, hT⟩ : ∃ T : ByteArray, (⟨(Lib.trimPrefix p.data.toList q.data.toList).toArray⟩ : ByteArray) = T := ⟨_, rfl⟩
  have hTl : Lib.trimPrefix p.data.toList q.data.toList = T.data.toList := by rw [← hT]
  obtain ⟨t, ht⟩ : ∃ t, Lib.hasPrefix p.data.toList q.data.toList = t := ⟨_, rfl⟩
  rw [hTl, ht] at hv
  simp only [hT, ht] at hcut
  have HCUT := hide hcut
  have HV := hide hv
  clear hcut hv hT hTl ht hq
  go_enter Tryz.func109, Tryz.ntmps109
  go_wp2_with fail
  refine (HCUT.out _).mono ?_
  rintro e w' ⟨rfl, rfl⟩
  cases t with
  | false =>
   go_wp2
   go_ret
   exact ⟨ret_bool (by rw [HV.out]; rfl), rfl⟩
  | true =>
   by_cases he : T.data.toList = []
   ·have h1 : T.toList.isEmpty = true := by rw [toL, he]; rfl
    have h2 : (T.toList == []) = true := by rw [toL, he]; rfl
    have HE := hide he
    clear he
    go_wp2
    go_ret
    exact ⟨ret_bool (by rw [HV.out, HE.out]; rfl), rfl⟩
   ·have h1 : T.toList.isEmpty = false := by rw [toL]; simpa using he
    have h2 : (T.toList == []) = false := by rw [toL]; simpa using he
    have h0 : 0 < T.size := by rw [Lib.size_eq]; exact List.length_pos_iff.2 he
    have hg := data_getElem? T 0 h0
    have hh : (T.data.toList.head? == some 47) = (((T[0]'h0).toNat : Int) == 47) := by
     rw [List.head?_eq_getElem?, hg, Bool.eq_iff_iff]
     simp only [beq_iff_eq, Option.some.injEq]
     constructor
     ·intro e; rw [e]; rfl
     ·intro e
      refine UInt8.toNat_inj.1 ?_
      rw [show (47 : UInt8).toNat = 47 from rfl]; omega
    have HH := hide hh
    have HE := hide (show T.data.toList.isEmpty = false by simpa using he)
    clear hh hg he
    go_wp2
    go_ret
    exact ⟨ret_bool (by rw [HV.out, HE.out, HH.out]; rfl), rfl⟩
set_option maxRecDepth 100000 in
set_option maxHeartbeats 1000000 in
theorem on_any (mp p : ByteArray) (ex : Bool) (hv : Value) (w : World) (hs : p.size ≤ 9223372036854775807) (hm : MaxV w) (hsl : ∃ a n c, hv = .slice a n c) :
  Calls Tryz.prog 80 #[.agg #[.string mp, .bool ex, hv], .string p] w fun e w' => e = .returned (.bool (onB (bl mp) ex (bl p))) ∧ Ext w w' := by
 obtain ⟨a, n, c, rfl⟩ := hsl
 have e0 : Ext w (w.alloc (.cells #[.string mp, .bool ex, .slice a n c] 78)) := (Below.refl _ w).alloc (Nat.le_refl _) _
 have hpath := mpath_any p _ hs (hm.ext e0)
 have hcx : ∀ X, Ext (w.alloc (.cells #[.string mp, .bool ex, .slice a n c] 78)) X → X.cell? ⟨w.heap.size, 0, none⟩ = some (.string mp) ∧ X.cell? ⟨w.heap.size, 1, none⟩ = some (.bool ex) := fun X hX => ⟨(hX.cell (p := ⟨w.heap.size, 0, none⟩) (by simp)).trans (by go_simp), (hX.cell (p := ⟨w.heap.size, 1, none⟩) (by simp)).trans (by go_simp)⟩
 have HCX := hide hcx
 have HE0 := hide e0
 obtain ⟨t, ht⟩ : ∃ t, isPath p.data.toList = t := ⟨_, rfl⟩
 have hon : onB (bl mp) ex (bl p) = (t && (if ex then bl mp == bl p else beginsB (bl p) (bl mp))) := by unfold onB; rw [← ht]; rfl
 rw [ht] at hpath
 have HP := hide hpath
 have HON := hide hon
 clear hpath hcx e0 ht hon hm
 go_enter Tryz.func80, Tryz.ntmps80
 go_wp2_with fail
 refine HP.out.mono ?_
 rintro e w1 ⟨rfl, E1⟩
 obtain ⟨c0, c1⟩ := HCX.out _ E1
 cases t with
 | false =>
  go_wp2
  go_ret
  exact ⟨ret_bool (by rw [HON.out]; rfl), HE0.out.trans E1⟩
 | true =>
  cases ex with
  | true =>
   go_wp2
   go_ret
   refine ⟨ret_bool ?_, HE0.out.trans E1⟩
   rw [HON.out]
   show (mp.toList == p.toList) = (bl mp == bl p)
   rw [toL, toL]; rfl
  | false =>
   go_wp2_with fail
   refine (begins_any p mp _).mono ?_
   rintro e w2 ⟨rfl, rfl⟩
   go_wp2
   go_ret
   exact ⟨ret_bool (by rw [HON.out]; rfl), HE0.out.trans E1⟩
/-- how a match is wrong -/
def mchk (p : List UInt8) (L : List HeadD) : Int := if isPath p = true then hchk L else 10
set_option maxRecDepth 100000 in
set_option maxHeartbeats 1000000 in
theorem mchk_any (mp : ByteArray) (ex : Bool) (L : List HeadD) (hv : Value) (w : World) (hs : mp.size ≤ 9223372036854775807) (hm : MaxV w) (hh : Heads w hv L) (hz : HSz L) :
  Calls Tryz.prog 93 #[.agg #[.string mp, .bool ex, hv]] w fun e w' => e = .returned (.int .i64 (mchk (bl mp) L)) ∧ Ext w w' := by
 obtain ⟨_, a, c, rfl⟩ := hh.shape
 have e0 : Ext w (w.alloc (.cells #[.string mp, .bool ex, .slice a L.length c] 78)) := (Below.refl _ w).alloc (Nat.le_refl _) _
 have hpath := mpath_any mp _ hs (hm.ext e0)
 have hcx : ∀ X, Ext (w.alloc (.cells #[.string mp, .bool ex, .slice a L.length c] 78)) X → X.cell? ⟨w.heap.size, 2, none⟩ = some (.slice a L.length c) := fun X hX => (hX.cell (p := ⟨w.heap.size, 2, none⟩) (by simp)).trans (by go_simp)
 have HCX := hide hcx
 have HE0 := hide e0
 have HH := hide hh
 have HZ := hide hz
 obtain ⟨t, ht⟩ : ∃ t, isPath mp.data.toList = t := ⟨_, rfl⟩
 have hon : mchk (bl mp) L = if t = true then hchk L else 10 := by unfold mchk; rw [← ht]; rfl
 rw [ht] at hpath
 have HP := hide hpath
 have HON := hide hon
 clear hpath hcx e0 ht hon hm hh hz
 go_enter Tryz.func93, Tryz.ntmps93
 go_wp2_with fail
 refine HP.out.mono ?_
 rintro e w1 ⟨rfl, E1⟩
 have c2 := HCX.out _ E1
 cases t with
 | false =>
  go_wp2
  go_ret
  exact ⟨ret_int (by rw [HON.out]; rfl), HE0.out.trans E1⟩
 | true =>
  go_wp2_with fail
  refine (hhchk_any L _ _ ((HH.out.ext HE0.out).ext E1) HZ.out).mono ?_
  rintro e w2 ⟨rfl, E2⟩
  go_wp2
  go_ret
  exact ⟨ret_int (by rw [HON.out]; rfl), HE0.out.trans (E1.trans E2)⟩
end Go.Proofs.YtopejlachgompaaGreatDoor

/- match.Fits. -/
namespace Go.Proofs.YtopejlachgompaaGreatDoor
open Go.ChangeShapes Go.WideShapes Go.ChangeAt Go.RowKit Go.Lib Go.Shelf
/-- is what a head asks told by heads? -/
def askB (H : List HeadD) (h : HeadD) : Bool := match getH H (bl h.1) with
 | some v => bl h.2 == [] || bl h.2 == bl v
 | none => false
def fitsB (mp : List UInt8) (ex : Bool) (L : List HeadD) (p : List UInt8) (H : List HeadD) : Bool := onB mp ex p && L.all (askB H)
set_option maxRecDepth 100000 in
set_option maxHeartbeats 4000000 in
theorem fits_any (mp p : ByteArray) (ex : Bool) (L H : List HeadD) (hv l : Value) (w : World) (hs : p.size ≤ 9223372036854775807) (hm : MaxV w) (hh : Heads w hv L) (hl : Heads w l H) :
  Calls Tryz.prog 43 #[.agg #[.string mp, .bool ex, hv], .string p, l] w fun e w' => e = .returned (.bool (fitsB (bl mp) ex L (bl p) H)) ∧ Ext w w' := by
 obtain ⟨_, a, c, rfl⟩ := hh.shape
 obtain ⟨_, a2, c2, rfl⟩ := hl.shape
 have e0 : Ext w (w.alloc (.cells #[.string mp, .bool ex, .slice a L.length c] 78)) := (Below.refl _ w).alloc (Nat.le_refl _) _
 have hon := on_any mp p ex (.slice a L.length c) _ hs (hm.ext e0) ⟨a, L.length, c, rfl⟩
 have hcx : ∀ X, Ext (w.alloc (.cells #[.string mp, .bool ex, .slice a L.length c] 78)) X → X.cell? ⟨w.heap.size, 2, none⟩ = some (.slice a L.length c) := fun X hX => (hX.cell (p := ⟨w.heap.size, 2, none⟩) (by simp)).trans (by go_simp)
 have HCX := hide hcx
 have HE0 := hide e0
 have HH := hide (hh.ext e0)
 have HL := hide (hl.ext e0)
 have hlz := hh.shape.1
 obtain ⟨t, ht⟩ : ∃ t, onB (bl mp) ex (bl p) = t := ⟨_, rfl⟩
 have hf : fitsB (bl mp) ex L (bl p) H = (t && L.all (askB H)) := by unfold fitsB; rw [ht]
 rw [ht] at hon
 have HON := hide hon
 have HF := hide hf
 clear hon hcx e0 ht hf hm hh hl
 go_enter Tryz.func43, Tryz.ntmps43
 go_wp2_with fail
 refine HON.out.mono ?_
 rintro e w1 ⟨rfl, E1⟩
 have cc := HCX.out _ E1
 cases t with
 | false =>
  go_wp2
  go_ret
  exact ⟨ret_bool (by rw [HF.out]; rfl), HE0.out.trans E1⟩
 | true =>
  go_wp2_with fail
  go_loopw [18] (fun i wr => ∃ k : Nat, k ≤ L.length ∧ i = .int .i64 k ∧ (L.take k).all (askB H) = true ∧ Ext w1 wr) (fun i _ => L.length - (intOf i).toNat)
  case atStart => exact ⟨0, by omega, rfl, by simp, Below.refl _ _⟩
  case round =>
   obtain ⟨k, hk, rfl, hok, hext⟩ := hrel
   by_cases hlt : k < L.length
   ·obtain ⟨b, off, rfl, hbb, hc1, hc2⟩ := heads_at (HH.out.ext (E1.trans hext)) k hlt
    have hsn : (L.take (k + 1)).all (askB H) = askB H L[k] := by rw [take_snoc L k hlt, List.all_append, hok]; simp
    have hbd : askB H L[k] = false → L.all (askB H) = false := fun h => by
     rw [List.all_eq_false]; exact ⟨L[k], List.getElem_mem hlt, by rw [h]; simp⟩
    obtain ⟨⟨x1, x2⟩, hx⟩ : ∃ x, L[k] = x := ⟨_, rfl⟩
    simp only [hx] at hc1 hc2
    rw [hx] at hsn hbd
    have hget := fun X (hX : Ext w1 X) => hget_any H x1 (.slice a2 H.length c2) X (HL.out.ext (E1.trans hX))
    have hask : askB H (x1, x2) = match getH H (bl x1) with
     | some v => bl x2 == [] || bl x2 == bl v
     | none => false := rfl
    have hsz := hext.size
    have e8 : Ext wr (wr.alloc (.cells #[.string x1, .string x2] 110)) := (Below.refl _ wr).alloc (Nat.le_refl _) _
    have hcy : ∀ X, Ext (wr.alloc (.cells #[.string x1, .string x2] 110)) X → X.cell? ⟨wr.heap.size, 1, none⟩ = some (.string x2) := fun X hX => (hX.cell (p := ⟨wr.heap.size, 1, none⟩) (by simp)).trans (by go_simp)
    have HCY := hide hcy
    have HE8 := hide e8
    have HSN := hide hsn
    have HBD := hide hbd
    have HGET := hide hget
    have HASK := hide hask
    clear hcy e8 hsn hbd hget hask hx hok
    go_wp2_with fail
    refine (HGET.out _ (hext.trans HE8.out)).mono ?_
    rintro e w7 ⟨rfl, E7⟩
    have cy := HCY.out _ E7
    cases hg : getH H (bl x1) with
    | none =>
     have ha : askB H (x1, x2) = false := by
      have h := HASK.out
      rw [hg] at h
      exact h
     have HB := hide (HBD.out ha)
     have HG := hide hg
     clear ha hg
     simp only [Option.getD_none, Option.isSome_none]
     go_wp2
     go_ret
     exact ⟨ret_bool (by rw [HF.out, HB.out]; rfl), HE0.out.trans (E1.trans (hext.trans (HE8.out.trans E7)))⟩
    | some v =>
     have ha : askB H (x1, x2) = (bl x2 == [] || bl x2 == bl v) := by
      have h := HASK.out
      rw [hg] at h
      exact h
     simp only [Option.getD_some, Option.isSome_some]
     have HG := hide hg
     clear hg
     by_cases he : bl x2 = []
     ·have h1 : x2.toList.isEmpty = true := by rw [toL]; show (bl x2).isEmpty = true; rw [he]; rfl
      have h2 : (x2.toList == []) = true := by rw [toL]; show (bl x2 == []) = true; rw [he]; rfl
      have hs1 := HSN.out
      rw [ha, he] at hs1
      have HS1 := hide hs1
      clear ha he hs1
      go_wp2
      go_roundw
      case rel => exact ⟨k + 1, hlt, by go_num, by rw [HS1.out]; rfl, hext.trans (HE8.out.trans E7)⟩
      case measure => simp [intOf]; omega
     ·have h1 : x2.toList.isEmpty = false := by rw [toL]; show (bl x2).isEmpty = false; simpa using he
      have h2 : (x2.toList == []) = false := by rw [toL]; show (bl x2 == []) = false; simpa using he
      have he' : (bl x2 == []) = false := by simpa using he
      rw [he'] at ha
      by_cases heq : bl x2 = bl v
      ·have h3 : (x2.toList == v.toList) = true := by rw [toL, toL]; show (bl x2 == bl v) = true; simpa using heq
       have h4 : (x2.toList != v.toList) = false := by rw [toL, toL]; show (bl x2 != bl v) = false; simpa using heq
       have hs1 := HSN.out
       rw [ha, heq] at hs1
       have HS1 := hide hs1
       clear ha he he' heq hs1
       go_wp2
       go_roundw
       case rel => exact ⟨k + 1, hlt, by go_num, by rw [HS1.out]; simp, hext.trans (HE8.out.trans E7)⟩
       case measure => simp [intOf]; omega
      ·have h3 : (x2.toList == v.toList) = false := by rw [toL, toL]; show (bl x2 == bl v) = false; simpa using heq
       have h4 : (x2.toList != v.toList) = true := by rw [toL, toL]; show (bl x2 != bl v) = true; simpa using heq
       have h5 : (bl x2 == bl v) = false := by simpa using heq
       rw [h5] at ha
       have HB := hide (HBD.out ha)
       clear ha he he' heq h5
       go_wp2
       go_ret
       exact ⟨ret_bool (by rw [HF.out, HB.out]; rfl), HE0.out.trans (E1.trans (hext.trans (HE8.out.trans E7)))⟩
   ·obtain rfl : k = L.length := by omega
    rw [List.take_length] at hok
    have HOK := hide hok
    clear hok
    go_wp2
    go_ret
    exact ⟨ret_bool (by rw [HF.out, HOK.out]; rfl), HE0.out.trans (E1.trans hext)⟩
end Go.Proofs.YtopejlachgompaaGreatDoor
