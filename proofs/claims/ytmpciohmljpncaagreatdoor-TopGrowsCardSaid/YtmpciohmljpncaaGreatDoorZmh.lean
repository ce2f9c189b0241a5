/- Merged texts (HdA, Zh, Zm). -/
import Derived.Test.YtmpciohmljpncaaGreatDoorZqk
import Derived.Deep.RegionHeld3
namespace Go.Proofs.YtmpciohmljpncaaGreatDoor
open Go.ChangeShapes Go.WideShapes Go.ChangeAt Go.RowKit Go.Lib Go.Shelf
abbrev HeadD := ByteArray × ByteArray
def encH (h : HeadD) : List Value := [.string h.1, .string h.2]
theorem encH_len (h : HeadD) : (encH h).length = 2 := rfl
abbrev Heads := Sl encH 2
theorem heads_at {w : World} {a : Option Addr} {n cap : Nat} {xs : List HeadD} (h : Heads w (.slice a n cap) xs) (i : Nat) (hi : i < xs.length) :
  ∃ b off, a = some ⟨b, off, none⟩ ∧ b < w.heap.size ∧ w.cell? ⟨b, off + i * 2, none⟩ = some (.string xs[i].1) ∧ w.cell? ⟨b, off + i * 2 + 1, none⟩ = some (.string xs[i].2) := by
 obtain ⟨_, a', cap', hv, _, hc⟩ := h
 cases hv
 obtain ⟨b, off, ha, hb, hc⟩ := hc i xs[i] (List.getElem?_eq_getElem hi)
 exact ⟨b, off, ha, hb, by simpa using hc 0 _ rfl, by simpa using hc 1 _ rfl⟩
def nmN (n : Nat) : Bool := (decide (97 ≤ n) && decide (n ≤ 122)) || (decide (48 ≤ n) && decide (n ≤ 57)) || n == 45
def vlN (n : Nat) : Bool := decide (32 ≤ n) && decide (n ≤ 126)
def nmC (c : UInt8) : Bool := nmN c.toNat
def vlC (c : UInt8) : Bool := vlN c.toNat
/-- may a head be? -/
def mayB (n v : List UInt8) : Bool := decide (1 ≤ n.length) && decide (n.length ≤ 20) && decide (v.length ≤ 60) && n.all nmC && v.all vlC
end Go.Proofs.YtmpciohmljpncaaGreatDoor

/- heads: place, Get, Check; the reference's Get and Check. -/
namespace Go.Proofs.YtmpciohmljpncaaGreatDoor
open Go.ChangeShapes Go.WideShapes Go.ChangeAt Go.RowKit Go.Lib Go.Shelf
def isN (nm : List UInt8) (h : HeadD) : Bool := bl h.1 == nm
def getH (L : List HeadD) (nm : List UInt8) : Option ByteArray := (L.find? (isN nm)).map (·.2)
def placeI (L : List HeadD) (nm : List UInt8) : Int := match L.findIdx? (isN nm) with
 | some i => (i : Int)
 | none => -1
theorem placeI_hit (L : List HeadD) (nm : List UInt8) (k : Nat) (hk : k < L.length) (h : isN nm L[k] = true) (hn : ∀ j (hj : j < k), isN nm (L[j]'(by omega)) = false) : placeI L nm = k ∧ getH L nm = some L[k].2 := by
 have h1 : L.findIdx? (isN nm) = some k := List.findIdx?_eq_some_iff_getElem.2 ⟨hk, h, fun j hj => by simp [hn j hj]⟩
 have h2 : L.find? (isN nm) = some L[k] := List.find?_eq_some_iff_getElem.2 ⟨h, k, hk, rfl, fun j hj => by simp [hn j hj]⟩
 unfold placeI getH
 rw [h1, h2]
 exact ⟨rfl, rfl⟩
theorem placeI_miss (L : List HeadD) (nm : List UInt8) (hn : ∀ j (hj : j < L.length), isN nm L[j] = false) : placeI L nm = -1 ∧ getH L nm = none := by
 have hall : ∀ x ∈ L, isN nm x = false := fun x hx => by
  obtain ⟨j, hj, rfl⟩ := List.getElem_of_mem hx
  exact hn j hj
 have h1 : L.findIdx? (isN nm) = none := List.findIdx?_eq_none_iff.2 hall
 have h2 : L.find? (isN nm) = none := List.find?_eq_none.2 (fun x hx => by simp [hall x hx])
 unfold placeI getH
 rw [h1, h2]
 exact ⟨rfl, rfl⟩
set_option maxRecDepth 100000 in
set_option maxHeartbeats 2000000 in
theorem rget_any (L : List HeadD) (nm : ByteArray) (v : Value) (w : World) (hs : Heads w v L) :
  Calls Tryz.prog 133 #[v, .string nm] w fun e w' => e = .returned (.tuple #[.string ((getH L (bl nm)).getD ⟨#[]⟩), .bool (getH L (bl nm)).isSome]) ∧ w = w' := by
 obtain ⟨_, a, cap, rfl⟩ := hs.shape
 have HS := hide hs
 have hlz := hs.shape.1
 clear hs
 go_enter Tryz.func133, Tryz.ntmps133
 go_wp2_with fail
 go_loop [6] (fun i => ∃ k : Nat, ∃ hk : k ≤ L.length, i = .int .i64 k ∧ (∀ j (hj : j < k), isN (bl nm) (L[j]'(by omega)) = false)) (fun i => L.length - (intOf i).toNat)
 case atStart => exact ⟨0, by omega, rfl, fun j hj => by omega⟩
 case round =>
  obtain ⟨k, hk, rfl, hno⟩ := hrel
  by_cases hlt : k < L.length
  ·obtain ⟨b, off, rfl, hbb, hc1, hc2⟩ := heads_at HS.out k hlt
   have hhit := placeI_hit L (bl nm) k hlt
   have hnx : isN (bl nm) L[k] = false → ∀ j (hj : j < k + 1), isN (bl nm) (L[j]'(by omega)) = false := fun h j hj => by
    by_cases e : j = k
    ·subst e; exact h
    ·exact hno j (by omega)
   have hq : isN (bl nm) L[k] = (L[k].1.toList == nm.toList) := by unfold isN bl; rw [toL, toL]
   obtain ⟨⟨x1, x2⟩, hx⟩ : ∃ x, L[k] = x := ⟨_, rfl⟩
   simp only [hx] at hc1 hc2 hhit hnx hq
   rw [hq] at hhit hnx
   obtain ⟨t, ht⟩ : ∃ t, (x1.toList == nm.toList) = t := ⟨_, rfl⟩
   simp only [ht] at hhit hnx
   have HHIT := hide hhit
   have HNX := hide hnx
   have HNO := hide hno
   clear hhit hnx hx hno hq
   cases t with
   | true =>
    have h1 := (HHIT.out rfl HNO.out).2
    have H1 := hide h1
    clear h1
    go_wp2
    go_ret2
    exact ⟨by rw [H1.out]; rfl, rfl⟩
   | false =>
    go_wp2
    go_round
    case rel => exact ⟨k + 1, hlt, by go_num, HNX.out rfl⟩
    case measure => simp [intOf]; omega
  ·obtain rfl : k = L.length := by omega
   have h1 := (placeI_miss L (bl nm) hno).2
   have H1 := hide h1
   clear h1 hno
   go_wp2
   go_ret2
   exact ⟨by rw [H1.out]; rfl, rfl⟩
end Go.Proofs.YtmpciohmljpncaaGreatDoor

/- heads.Check, the reference's Check; match.Check, the reference's. -/
namespace Go.Proofs.YtmpciohmljpncaaGreatDoor
open Go.ChangeShapes Go.WideShapes Go.ChangeAt Go.RowKit Go.Lib Go.Shelf
def hchkL : List HeadD → List HeadD → Int
 | _, [] => 0
 | seen, h :: t => if mayB (bl h.1) (bl h.2) = true then (if (getH seen (bl h.1)).isSome = true then 5 else hchkL (seen ++ [h]) t) else 11
/-- how heads are wrong -/
def hchk (L : List HeadD) : Int := if 8 < L.length then 2 else hchkL [] L
/-- all texts of heads are of a size that can be -/
def HSz (L : List HeadD) : Prop := ∀ h ∈ L, h.1.size ≤ 9223372036854775807 ∧ h.2.size ≤ 9223372036854775807
end Go.Proofs.YtmpciohmljpncaaGreatDoor

/- match: begins, On, Fits, Check; the reference's Check. -/
namespace Go.Proofs
open Go.Shelf
def Tryz.lCut_ren : Go.Shelf.Ren := ⟨fun | 103 => 391 | 210 => 458 | 206 => 316 | n => n, fun | 9 => 9 | 4 => 4 | 24 => 288 | 3 => 3 | n => n, fun | n => n⟩
theorem Tryz.lCut : Go.Proofs.Lays.n103 Tryz.prog Tryz.lCut_ren := {
  mixed := by kernel_rfl
  f103 := Tryz.func391.trans (congrArg some (by kernel_rfl))
  f206 := Tryz.func316.trans (congrArg some (by kernel_rfl))
  f210 := Tryz.func458.trans (congrArg some (by kernel_rfl))
  t3 := Tryz.underlying3
  a3 := Tryz.isAgg3
  z3 := Tryz.sizeOf3
  v3 := Tryz.zeroValue3
  t4 := Tryz.underlying4
  a4 := Tryz.isAgg4
  z4 := Tryz.sizeOf4
  v4 := Tryz.zeroValue4
  t9 := Tryz.underlying9
  a9 := Tryz.isAgg9
  z9 := Tryz.sizeOf9
  v9 := Tryz.zeroValue9
  t24 := Tryz.underlying288
  a24 := Tryz.isAgg288
  z24 := Tryz.sizeOf288
  v24 := Tryz.zeroValue288 }
end Go.Proofs
namespace Go.Proofs.YtmpciohmljpncaaGreatDoor
open Go.ChangeShapes Go.WideShapes Go.ChangeAt Go.RowKit Go.Lib Go.Shelf
/-- does a path begin with another one? -/
def beginsB (p q : List UInt8) : Bool := q == [47] || (Lib.hasPrefix p q && ((Lib.trimPrefix p q).isEmpty || (Lib.trimPrefix p q).head? == some 47))
def onB (mp : List UInt8) (ex : Bool) (p : List UInt8) : Bool := isPath p && (if ex then mp == p else beginsB p mp)
set_option maxRecDepth 100000 in
set_option maxHeartbeats 1000000 in
theorem begins_any (p q : ByteArray) (w : World) : Calls Tryz.prog 314 #[.string p, .string q] w fun e w' => e = .returned (.bool (beginsB (bl p) (bl q))) ∧ w = w' := by
 by_cases hq : bl q = [47]
 ·have hb : (q.toList == [47]) = true := by rw [toL]; show (bl q == [47]) = true; simpa using hq
  have HB := hide (show beginsB (bl p) (bl q) = true by unfold beginsB; rw [hq]; rfl)
  clear hq
  go_enter Tryz.func314, Tryz.ntmps314
  go_wp2
  go_ret
  exact ⟨ret_bool HB.out.symm, rfl⟩
 ·have hb : (q.toList == [47]) = false := by rw [toL]; show (bl q == [47]) = false; simpa using hq
  have hcut : ∀ u : World, Calls Tryz.prog 391 #[.string p, .string q] u fun e w' => e = .returned (.tuple #[.string ⟨(Lib.trimPrefix p.data.toList q.data.toList).toArray⟩, .bool (Lib.hasPrefix p.data.toList q.data.toList)]) ∧ u = w' := fun u => (Any.strings_CutPrefix Tryz.lCut p q u).mono (fun _ _ h => ⟨h.1, h.2.symm⟩)
  have hv : beginsB (bl p) (bl q) = (Lib.hasPrefix p.data.toList q.data.toList && ((Lib.trimPrefix p.data.toList q.data.toList).isEmpty || (Lib.trimPrefix p.data.toList q.data.toList).head? == some 47)) := by
   unfold beginsB
   have : (bl q == [47]) = false := by simpa using hq
   rw [this]; rfl
  obtain ⟨T, hT⟩ : ∃ T : ByteArray, (⟨(Lib.trimPrefix p.data.toList q.data.toList).toArray⟩ : ByteArray) = T := ⟨_, rfl⟩
  have hTl : Lib.trimPrefix p.data.toList q.data.toList = T.data.toList := by rw [← hT]
  obtain ⟨t, ht⟩ : ∃ t, Lib.hasPrefix p.data.toList q.data.toList = t := ⟨_, rfl⟩
  rw [hTl, ht] at hv
  simp only [hT, ht] at hcut
  have HCUT := hide hcut
  have HV := hide hv
  clear hcut hv hT hTl ht hq
  go_enter Tryz.func314, Tryz.ntmps314
  go_wp2_with fail
  refine (HCUT.out _).mono ?_
  rintro e w' ⟨rfl, rfl⟩
  cases t with
  | false =>
   go_wp2
   go_ret
   exact ⟨ret_bool (by rw [HV.out]; rfl), rfl⟩
  | true =>
   by_cases he : T.data.toList = []
   ·have h1 : T.toList.isEmpty = true := by rw [toL, he]; rfl
    have h2 : (T.toList == []) = true := by rw [toL, he]; rfl
    have HE := hide he
    clear he
    go_wp2
    go_ret
    exact ⟨ret_bool (by rw [HV.out, HE.out]; rfl), rfl⟩
   ·have h1 : T.toList.isEmpty = false := by rw [toL]; simpa using he
    have h2 : (T.toList == []) = false := by rw [toL]; simpa using he
    have h0 : 0 < T.size := by rw [Lib.size_eq]; exact List.length_pos_iff.2 he
    have hg := data_getElem? T 0 h0
    have hh : (T.data.toList.head? == some 47) = (((T[0]'h0).toNat : Int) == 47) := by
     rw [List.head?_eq_getElem?, hg, Bool.eq_iff_iff]
     simp only [beq_iff_eq, Option.some.injEq]
     constructor
     ·intro e; rw [e]; rfl
     ·intro e
      refine UInt8.toNat_inj.1 ?_
      rw [show (47 : UInt8).toNat = 47 from rfl]; omega
    have HH := hide hh
    have HE := hide (show T.data.toList.isEmpty = false by simpa using he)
    clear hh hg he
    go_wp2
    go_ret
    exact ⟨ret_bool (by rw [HV.out, HE.out, HH.out]; rfl), rfl⟩
set_option maxRecDepth 100000 in
set_option maxHeartbeats 1000000 in
theorem on_any (mp p : ByteArray) (ex : Bool) (hv : Value) (w : World) (hs : p.size ≤ 9223372036854775807) (hm : MaxV w) (hsl : ∃ a n c, hv = .slice a n c) :
  Calls Tryz.prog 218 #[.agg #[.string mp, .bool ex, hv], .string p] w fun e w' => e = .returned (.bool (onB (bl mp) ex (bl p))) ∧ Ext w w' := by
 obtain ⟨a, n, c, rfl⟩ := hsl
 have e0 : Ext w (w.alloc (.cells #[.string mp, .bool ex, .slice a n c] 48)) := (Below.refl _ w).alloc (Nat.le_refl _) _
 have hpath := mpath_any p _ hs (hm.ext e0)
 have hcx : ∀ X, Ext (w.alloc (.cells #[.string mp, .bool ex, .slice a n c] 48)) X → X.cell? ⟨w.heap.size, 0, none⟩ = some (.string mp) ∧ X.cell? ⟨w.heap.size, 1, none⟩ = some (.bool ex) := fun X hX => ⟨(hX.cell (p := ⟨w.heap.size, 0, none⟩) (by simp)).trans (by go_simp), (hX.cell (p := ⟨w.heap.size, 1, none⟩) (by simp)).trans (by go_simp)⟩
 have HCX := hide hcx
 have HE0 := hide e0
 obtain ⟨t, ht⟩ : ∃ t, isPath p.data.toList = t := ⟨_, rfl⟩
 have hon : onB (bl mp) ex (bl p) = (t && (if ex then bl mp == bl p else beginsB (bl p) (bl mp))) := by unfold onB; rw [← ht]; rfl
 rw [ht] at hpath
 have HP := hide hpath
 have HON := hide hon
 clear hpath hcx e0 ht hon hm
 go_enter Tryz.func218, Tryz.ntmps218
 go_wp2_with fail
 refine HP.out.mono ?_
 rintro e w1 ⟨rfl, E1⟩
 obtain ⟨c0, c1⟩ := HCX.out _ E1
 cases t with
 | false =>
  go_wp2
  go_ret
  exact ⟨ret_bool (by rw [HON.out]; rfl), HE0.out.trans E1⟩
 | true =>
  cases ex with
  | true =>
   go_wp2
   go_ret
   refine ⟨ret_bool ?_, HE0.out.trans E1⟩
   rw [HON.out]
   show (mp.toList == p.toList) = (bl mp == bl p)
   rw [toL, toL]; rfl
  | false =>
   go_wp2_with fail
   refine (begins_any p mp _).mono ?_
   rintro e w2 ⟨rfl, rfl⟩
   go_wp2
   go_ret
   exact ⟨ret_bool (by rw [HON.out]; rfl), HE0.out.trans E1⟩
/-- how a match is wrong -/
def mchk (p : List UInt8) (L : List HeadD) : Int := if isPath p = true then hchk L else 10
end Go.Proofs.YtmpciohmljpncaaGreatDoor

/- match.Fits. -/
namespace Go.Proofs.YtmpciohmljpncaaGreatDoor
open Go.ChangeShapes Go.WideShapes Go.ChangeAt Go.RowKit Go.Lib Go.Shelf
end Go.Proofs.YtmpciohmljpncaaGreatDoor
