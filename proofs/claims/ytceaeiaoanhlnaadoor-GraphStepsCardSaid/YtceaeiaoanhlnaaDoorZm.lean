import Derived.Test.YtceaeiaoanhlnaaDoorZh

/- match: begins, On, Fits, Check; the reference's Check. -/
namespace Go.Proofs
open Go.Shelf
def Tryd.lCut_ren : Go.Shelf.Ren := ⟨fun | 103 => 86 | 210 => 110 | 206 => 108 | n => n, fun | 9 => 9 | 4 => 4 | 24 => 108 | 3 => 3 | n => n, fun | n => n⟩
theorem Tryd.lCut : Go.Proofs.Lays.n103 Tryd.prog Tryd.lCut_ren := {
  mixed := by kernel_rfl
  f103 := Tryd.func86.trans (congrArg some (by kernel_rfl))
  f206 := Tryd.func108.trans (congrArg some (by kernel_rfl))
  f210 := Tryd.func110.trans (congrArg some (by kernel_rfl))
  t3 := Tryd.underlying3
  a3 := Tryd.isAgg3
  z3 := Tryd.sizeOf3
  v3 := Tryd.zeroValue3
  t4 := Tryd.underlying4
  a4 := Tryd.isAgg4
  z4 := Tryd.sizeOf4
  v4 := Tryd.zeroValue4
  t9 := Tryd.underlying9
  a9 := Tryd.isAgg9
  z9 := Tryd.sizeOf9
  v9 := Tryd.zeroValue9
  t24 := Tryd.underlying108
  a24 := Tryd.isAgg108
  z24 := Tryd.sizeOf108
  v24 := Tryd.zeroValue108 }
end Go.Proofs
namespace Go.Proofs.YtceaeiaoanhlnaaDoor
open Go.ChangeShapes Go.WideShapes Go.ChangeAt Go.RowKit Go.Lib Go.Shelf
/-- does a path begin with another one? -/
def beginsB (p q : List UInt8) : Bool := q == [47] || (Lib.hasPrefix p q && ((Lib.trimPrefix p q).isEmpty || (Lib.trimPrefix p q).head? == some 47))
def onB (mp : List UInt8) (ex : Bool) (p : List UInt8) : Bool := isPath p && (if ex then mp == p else beginsB p mp)
set_option maxRecDepth 100000 in
set_option maxHeartbeats 1000000 in
theorem begins_any (p q : ByteArray) (w : World) : Calls Tryd.prog 54 #[.string p, .string q] w fun e w' => e = .returned (.bool (beginsB (bl p) (bl q))) ∧ w = w' := by
 by_cases hq : bl q = [47]
 ·have hb : (q.toList == [47]) = true := by rw [toL]; show (bl q == [47]) = true; simpa using hq
  have HB := hide (show beginsB (bl p) (bl q) = true by unfold beginsB; rw [hq]; rfl)
  clear hq
  go_enter Tryd.func54, Tryd.ntmps54
  go_wp2
  go_ret
  exact ⟨ret_bool HB.out.symm, rfl⟩
 ·have hb : (q.toList == [47]) = false := by rw [toL]; show (bl q == [47]) = false; simpa using hq
  have hcut : ∀ u : World, Calls Tryd.prog 86 #[.string p, .string q] u fun e w' => e = .returned (.tuple #[.string ⟨(Lib.trimPrefix p.data.toList q.data.toList).toArray⟩, .bool (Lib.hasPrefix p.data.toList q.data.toList)]) ∧ u = w' := fun u => (Any.strings_CutPrefix Tryd.lCut p q u).mono (fun _ _ h => ⟨h.1, h.2.symm⟩)
  have hv : beginsB (bl p) (bl q) = (Lib.hasPrefix p.data.toList q.data.toList && ((Lib.trimPrefix p.data.toList q.data.toList).isEmpty || (Lib.trimPrefix p.data.toList q.data.toList).head? == some 47)) := by
   unfold beginsB
   have : (bl q == [47]) = false := by simpa using hq
   rw [this]; rfl
  obtain ⟨T, hT⟩ : ∃ T : ByteArray, (⟨(Lib.trimPrefix p.data.toList q.data.toList).toArray⟩ : ByteArray) = T := ⟨_, rfl⟩
  have hTl : Lib.trimPrefix p.data.toList q.data.toList = T.data.toList := by rw [← hT]
  obtain ⟨t, ht⟩ : ∃ t, Lib.hasPrefix p.data.toList q.data.toList = t := ⟨_, rfl⟩
  rw [hTl, ht] at hv
  simp only [hT, ht] at hcut
  have HCUT := hide hcut
  have HV := hide hv
  clear hcut hv hT hTl ht hq
  go_enter Tryd.func54, Tryd.ntmps54
  go_wp2_with fail
  refine (HCUT.out _).mono ?_
  rintro e w' ⟨rfl, rfl⟩
  cases t with
  | false =>
   go_wp2
   go_ret
   exact ⟨ret_bool (by rw [HV.out]; rfl), rfl⟩
  | true =>
   by_cases he : T.data.toList = []
   ·have h1 : T.toList.isEmpty = true := by rw [toL, he]; rfl
    have h2 : (T.toList == []) = true := by rw [toL, he]; rfl
    have HE := hide he
    clear he
    go_wp2
    go_ret
    exact ⟨ret_bool (by rw [HV.out, HE.out]; rfl), rfl⟩
   ·have h1 : T.toList.isEmpty = false := by rw [toL]; simpa using he
    have h2 : (T.toList == []) = false := by rw [toL]; simpa using he
    have h0 : 0 < T.size := by rw [Lib.size_eq]; exact List.length_pos_iff.2 he
    have hg := data_getElem? T 0 h0
    have hh : (T.data.toList.head? == some 47) = (((T[0]'h0).toNat : Int) == 47) := by
     rw [List.head?_eq_getElem?, hg, Bool.eq_iff_iff]
     simp only [beq_iff_eq, Option.some.injEq]
     constructor
     ·intro e; rw [e]; rfl
     ·intro e
      refine UInt8.toNat_inj.1 ?_
      rw [show (47 : UInt8).toNat = 47 from rfl]; omega
    have HH := hide hh
    have HE := hide (show T.data.toList.isEmpty = false by simpa using he)
    clear hh hg he
    go_wp2
    go_ret
    exact ⟨ret_bool (by rw [HV.out, HE.out, HH.out]; rfl), rfl⟩
set_option maxRecDepth 100000 in
set_option maxHeartbeats 1000000 in
theorem on_any (mp p : ByteArray) (ex : Bool) (hv : Value) (w : World) (hs : p.size ≤ 9223372036854775807) (hm : MaxV w) (hsl : ∃ a n c, hv = .slice a n c) :
  Calls Tryd.prog 30 #[.agg #[.string mp, .bool ex, hv], .string p] w fun e w' => e = .returned (.bool (onB (bl mp) ex (bl p))) ∧ Ext w w' := by
 obtain ⟨a, n, c, rfl⟩ := hsl
 have e0 : Ext w (w.alloc (.cells #[.string mp, .bool ex, .slice a n c] 33)) := (Below.refl _ w).alloc (Nat.le_refl _) _
 have hpath := mpath_any p _ hs (hm.ext e0)
 have hcx : ∀ X, Ext (w.alloc (.cells #[.string mp, .bool ex, .slice a n c] 33)) X → X.cell? ⟨w.heap.size, 0, none⟩ = some (.string mp) ∧ X.cell? ⟨w.heap.size, 1, none⟩ = some (.bool ex) := fun X hX => ⟨(hX.cell (p := ⟨w.heap.size, 0, none⟩) (by simp)).trans (by go_simp), (hX.cell (p := ⟨w.heap.size, 1, none⟩) (by simp)).trans (by go_simp)⟩
 have HCX := hide hcx
 have HE0 := hide e0
 obtain ⟨t, ht⟩ : ∃ t, isPath p.data.toList = t := ⟨_, rfl⟩
 have hon : onB (bl mp) ex (bl p) = (t && (if ex then bl mp == bl p else beginsB (bl p) (bl mp))) := by unfold onB; rw [← ht]; rfl
 rw [ht] at hpath
 have HP := hide hpath
 have HON := hide hon
 clear hpath hcx e0 ht hon hm
 go_enter Tryd.func30, Tryd.ntmps30
 go_wp2_with fail
 refine HP.out.mono ?_
 rintro e w1 ⟨rfl, E1⟩
 obtain ⟨c0, c1⟩ := HCX.out _ E1
 cases t with
 | false =>
  go_wp2
  go_ret
  exact ⟨ret_bool (by rw [HON.out]; rfl), HE0.out.trans E1⟩
 | true =>
  cases ex with
  | true =>
   go_wp2
   go_ret
   refine ⟨ret_bool ?_, HE0.out.trans E1⟩
   rw [HON.out]
   show (mp.toList == p.toList) = (bl mp == bl p)
   rw [toL, toL]; rfl
  | false =>
   go_wp2_with fail
   refine (begins_any p mp _).mono ?_
   rintro e w2 ⟨rfl, rfl⟩
   go_wp2
   go_ret
   exact ⟨ret_bool (by rw [HON.out]; rfl), HE0.out.trans E1⟩
/-- how a match is wrong -/
def mchk (p : List UInt8) (L : List HeadD) : Int := if isPath p = true then hchk L else 10
end Go.Proofs.YtceaeiaoanhlnaaDoor

/- match.Fits. -/
namespace Go.Proofs.YtceaeiaoanhlnaaDoor
open Go.ChangeShapes Go.WideShapes Go.ChangeAt Go.RowKit Go.Lib Go.Shelf
end Go.Proofs.YtceaeiaoanhlnaaDoor
