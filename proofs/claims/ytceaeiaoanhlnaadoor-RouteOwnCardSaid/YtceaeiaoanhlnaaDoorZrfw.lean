/- Merged texts (RfA). -/
import Derived.Test.YtceaeiaoanhlnaaDoorZmhw
import Derived.Test.YtceaeiaoanhlnaaDoorZbw
namespace Go.Proofs.YtceaeiaoanhlnaaDoor
open Go.ChangeShapes Go.WideShapes Go.ChangeAt Go.RowKit Go.Lib Go.Shelf
def sameTexts (xs ys : List ByteArray) : Bool := decide (xs.map bl = ys.map bl)
theorem bl_inj {x y : ByteArray} : (x.toList == y.toList) = (bl x == bl y) := by rw [toL, toL]; rfl
set_option maxRecDepth 100000 in
set_option maxHeartbeats 4000000 in
theorem sameTexts_any (xs ys : List ByteArray) (u v : Value) (w : World) (hx : Strs w u xs) (hy : Strs w v ys) :
  Calls Tryd.prog 12 #[u, v] w fun e w' => e = .returned (.bool (sameTexts xs ys)) ∧ Ext w w' := by
 have HX := hide hx
 have HY := hide hy
 obtain ⟨hl1, a, cap, rfl⟩ := hx.shape
 obtain ⟨hl2, a', cap', rfl⟩ := hy.shape
 clear hx hy
 by_cases hlen : xs.length = ys.length
 ·have hlb : ((xs.length : Int) != (ys.length : Int)) = false := by simp [hlen]
  have HLEN := hide hlen; clear hlen
  go_enter Tryd.func12, Tryd.ntmps12
  go_wp2
  go_loopw [5] (fun i wr => ∃ k : Nat, k ≤ xs.length ∧ i = .int .i64 k ∧ Ext w wr ∧ (xs.take k).map bl = (ys.take k).map bl) (fun i _ => xs.length - (intOf i).toNat)
  case atStart => exact ⟨0, Nat.zero_le _, rfl, Below.refl _ _, rfl⟩
  case round =>
   obtain ⟨k, hk, rfl, hE, hT⟩ := hrel
   have HT := hide hT; clear hT
   by_cases hlt : k < xs.length
   ·have hlt2 : k < ys.length := by have := HLEN.out; omega
    obtain ⟨b, off, rfl, hbb, c0⟩ := strs_at (HX.out.ext hE) k hlt
    obtain ⟨b', off', rfl, hbb', c1⟩ := strs_at (HY.out.ext hE) k hlt2
    have htx := take_snoc xs k hlt
    have hty := take_snoc ys k hlt2
    have hgx : bl xs[k] = bl ys[k] → (xs.take (k + 1)).map bl = (ys.take (k + 1)).map bl := fun h => by rw [htx, hty, List.map_append, List.map_append, HT.out]; simp [h]
    have hgn : bl xs[k] ≠ bl ys[k] → sameTexts xs ys = false := fun h => decide_eq_false fun e => h (by
     have h1 := congrArg (fun l => l[k]?) e
     simp only [List.getElem?_map, List.getElem?_eq_getElem hlt, List.getElem?_eq_getElem hlt2, Option.map_some, Option.some.injEq] at h1
     exact h1)
    have hkz : (k : Int) < xs.length := by omega
    have hkz2 : (k : Int) < ys.length := by omega
    generalize xs[k] = x at *
    generalize ys[k] = y at *
    clear htx hty
    by_cases he : bl x = bl y
    ·have heb : (x.toList == y.toList) = true := by rw [bl_inj]; simpa using he
     have heb2 : (x.toList != y.toList) = false := by show (!(x.toList == y.toList)) = false; rw [heb]; rfl
     have HG := hide (hgx he)
     clear he hgx hgn
     go_wp2_with fail
     go_quiet (fail)
     go_wp2
     go_roundw
     case rel => exact ⟨k + 1, by omega, by go_num, Below.drewN' hE _, HG.out⟩
     case measure => simp [intOf]; omega
    ·have heb : (x.toList == y.toList) = false := by rw [bl_inj]; simpa using he
     have heb2 : (x.toList != y.toList) = true := by show (!(x.toList == y.toList)) = true; rw [heb]; rfl
     have HG := hide (hgn he)
     clear he hgx hgn
     go_wp2_with fail
     go_quiet (fail)
     go_wp2
     go_ret
     exact ⟨ret_bool HG.out.symm, Below.drewN' hE _⟩
   ·have hge : xs.length ≤ k := by omega
    have hf : sameTexts xs ys = true := decide_eq_true (by
     have := HT.out; rw [List.take_of_length_le hge, List.take_of_length_le (by have := HLEN.out; omega)] at this; exact this)
    have HF := hide hf; clear hf
    go_wp2
    go_ret
    exact ⟨ret_bool HF.out.symm, hE⟩
 ·have hlb : ((xs.length : Int) != (ys.length : Int)) = true := by simp; omega
  have hf : sameTexts xs ys = false := decide_eq_false fun e => hlen (by simpa using congrArg List.length e)
  have HF := hide hf
  clear hf hlen
  go_enter Tryd.func12, Tryd.ntmps12
  go_wp2
  go_ret
  exact ⟨ret_bool HF.out.symm, Below.refl _ _⟩
end Go.Proofs.YtceaeiaoanhlnaaDoor
