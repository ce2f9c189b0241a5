import Derived.Test.YtceaeiaoanhlnaaDoorHdA
import Derived.Deep.RegionHeld3

/- heads: place, Get, Check; the reference's Get and Check. -/
namespace Go.Proofs.YtceaeiaoanhlnaaDoor
open Go.ChangeShapes Go.WideShapes Go.ChangeAt Go.RowKit Go.Lib Go.Shelf
def isN (nm : List UInt8) (h : HeadD) : Bool := bl h.1 == nm
def getH (L : List HeadD) (nm : List UInt8) : Option ByteArray := (L.find? (isN nm)).map (·.2)
def placeI (L : List HeadD) (nm : List UInt8) : Int := match L.findIdx? (isN nm) with
 | some i => (i : Int)
 | none => -1
theorem placeI_hit (L : List HeadD) (nm : List UInt8) (k : Nat) (hk : k < L.length) (h : isN nm L[k] = true) (hn : ∀ j (hj : j < k), isN nm (L[j]'(by omega)) = false) : placeI L nm = k ∧ getH L nm = some L[k].2 := by
 have h1 : L.findIdx? (isN nm) = some k := List.findIdx?_eq_some_iff_getElem.2 ⟨hk, h, fun j hj => by simp [hn j hj]⟩
 have h2 : L.find? (isN nm) = some L[k] := List.find?_eq_some_iff_getElem.2 ⟨h, k, hk, rfl, fun j hj => by simp [hn j hj]⟩
 unfold placeI getH
 rw [h1, h2]
 exact ⟨rfl, rfl⟩
theorem placeI_miss (L : List HeadD) (nm : List UInt8) (hn : ∀ j (hj : j < L.length), isN nm L[j] = false) : placeI L nm = -1 ∧ getH L nm = none := by
 have hall : ∀ x ∈ L, isN nm x = false := fun x hx => by
  obtain ⟨j, hj, rfl⟩ := List.getElem_of_mem hx
  exact hn j hj
 have h1 : L.findIdx? (isN nm) = none := List.findIdx?_eq_none_iff.2 hall
 have h2 : L.find? (isN nm) = none := List.find?_eq_none.2 (fun x hx => by simp [hall x hx])
 unfold placeI getH
 rw [h1, h2]
 exact ⟨rfl, rfl⟩
set_option maxRecDepth 100000 in
set_option maxHeartbeats 2000000 in
theorem rget_any (L : List HeadD) (nm : ByteArray) (v : Value) (w : World) (hs : Heads w v L) :
  Calls Tryd.prog 81 #[v, .string nm] w fun e w' => e = .returned (.tuple #[.string ((getH L (bl nm)).getD ⟨#[]⟩), .bool (getH L (bl nm)).isSome]) ∧ w = w' := by
 obtain ⟨_, a, cap, rfl⟩ := hs.shape
 have HS := hide hs
 have hlz := hs.shape.1
 clear hs
 go_enter Tryd.func81, Tryd.ntmps81
 go_wp2_with fail
 go_loop [6] (fun i => ∃ k : Nat, ∃ hk : k ≤ L.length, i = .int .i64 k ∧ (∀ j (hj : j < k), isN (bl nm) (L[j]'(by omega)) = false)) (fun i => L.length - (intOf i).toNat)
 case atStart => exact ⟨0, by omega, rfl, fun j hj => by omega⟩
 case round =>
  obtain ⟨k, hk, rfl, hno⟩ := hrel
  by_cases hlt : k < L.length
  ·obtain ⟨b, off, rfl, hbb, hc1, hc2⟩ := heads_at HS.out k hlt
   have hhit := placeI_hit L (bl nm) k hlt
   have hnx : isN (bl nm) L[k] = false → ∀ j (hj : j < k + 1), isN (bl nm) (L[j]'(by omega)) = false := fun h j hj => by
    by_cases e : j = k
    ·subst e; exact h
    ·exact hno j (by omega)
   have hq : isN (bl nm) L[k] = (L[k].1.toList == nm.toList) := by unfold isN bl; rw [toL, toL]
   obtain ⟨⟨x1, x2⟩, hx⟩ : ∃ x, L[k] = x := ⟨_, rfl⟩
   simp only [hx] at hc1 hc2 hhit hnx hq
   rw [hq] at hhit hnx
   obtain ⟨t, ht⟩ : ∃ t, (x1.toList == nm.toList) = t := ⟨_, rfl⟩
   simp only [ht] at hhit hnx
   have HHIT := hide hhit
   have HNX := hide hnx
   have HNO := hide hno
   clear hhit hnx hx hno hq
   cases t with
   | true =>
    have h1 := (HHIT.out rfl HNO.out).2
    have H1 := hide h1
    clear h1
    go_wp2
    go_ret2
    exact ⟨by rw [H1.out]; rfl, rfl⟩
   | false =>
    go_wp2
    go_round
    case rel => exact ⟨k + 1, hlt, by go_num, HNX.out rfl⟩
    case measure => simp [intOf]; omega
  ·obtain rfl : k = L.length := by omega
   have h1 := (placeI_miss L (bl nm) hno).2
   have H1 := hide h1
   clear h1 hno
   go_wp2
   go_ret2
   exact ⟨by rw [H1.out]; rfl, rfl⟩
end Go.Proofs.YtceaeiaoanhlnaaDoor

/- heads.Check, the reference's Check; match.Check, the reference's. -/
namespace Go.Proofs.YtceaeiaoanhlnaaDoor
open Go.ChangeShapes Go.WideShapes Go.ChangeAt Go.RowKit Go.Lib Go.Shelf
def hchkL : List HeadD → List HeadD → Int
 | _, [] => 0
 | seen, h :: t => if mayB (bl h.1) (bl h.2) = true then (if (getH seen (bl h.1)).isSome = true then 5 else hchkL (seen ++ [h]) t) else 11
/-- how heads are wrong -/
def hchk (L : List HeadD) : Int := if 8 < L.length then 2 else hchkL [] L
/-- all texts of heads are of a size that can be -/
def HSz (L : List HeadD) : Prop := ∀ h ∈ L, h.1.size ≤ 9223372036854775807 ∧ h.2.size ≤ 9223372036854775807
end Go.Proofs.YtceaeiaoanhlnaaDoor
