/- Merged texts (HasA, Ref01b). -/
import Derived.Test.YtceaeiaoanhlnaaGreatDoorZrl
import Derived.Test.YtceaeiaoanhlnaaGreatDoorZs
namespace Go.Proofs.YtceaeiaoanhlnaaGreatDoor
open Go.ChangeShapes Go.WideShapes Go.ChangeAt Go.RowKit Go.Lib Go.Shelf
theorem contains_succ (l : List Int) (n : Int) (k : Nat) (h : k < l.length) : (l.take (k+1)).contains n = ((l.take k).contains n || l[k] == n) := by
 rw [Bool.eq_iff_iff]
 simp only [List.contains_iff_mem, take_snoc l k h, List.mem_append, List.mem_singleton, Bool.or_eq_true, beq_iff_eq]
 exact or_congr Iff.rfl eq_comm
set_option maxRecDepth 100000 in
set_option maxHeartbeats 2000000 in
theorem has_any (l : List Int) (n : Int) (v : Value) (w : World) (hs : Ints w v l) :
  Calls Tryz.prog 46 #[v, .int .i64 n] w fun e w' => e = .returned (.bool (l.contains n)) ∧ w = w' := by
 obtain ⟨hl, a, cap, rfl⟩ := hs.shape
 have HC := hide hs; clear hs
 go_enter Tryz.func46, Tryz.ntmps46
 go_wp2
 go_loopw [5] (fun i wr => ∃ k : Nat, k ≤ l.length ∧ i = .int .i64 k ∧ (l.take k).contains n = false ∧ wr = w)
  (fun i _ => l.length - (intOf i).toNat)
 case atStart => exact ⟨0, Nat.zero_le _, rfl, by simp, rfl⟩
 case round =>
  obtain ⟨k, hk, rfl, hno, rfl⟩ := hrel
  by_cases hlt : k < l.length
  ·obtain ⟨b, off, rfl, hbb, hc⟩ := ints_at HC.out k hlt
   have hcs := contains_succ l n k hlt
   have hm : l[k] ∈ l := List.getElem_mem hlt
   obtain ⟨x, hx⟩ : ∃ x, l[k] = x := ⟨_, rfl⟩
   rw [hx] at hc hcs hm
   rw [hno, Bool.false_or] at hcs
   clear hx hno
   by_cases he : x = n
   ·subst he
    have hin : l.contains x = true := by simpa using hm
    have HIN := hide hin
    clear hin hm hcs
    go_wp2
    go_ret
    exact ⟨ret_bool HIN.out.symm, rfl⟩
   ·have hne : (x == n) = false := by simp [he]
    rw [hne] at hcs
    have HCS := hide hcs
    clear hcs he hm
    go_wp2
    go_roundw
    case rel => exact ⟨k + 1, hlt, by go_num, HCS.out, trivial⟩
    case measure => simp [intOf]; omega
  ·obtain rfl : k = l.length := by omega
   rw [List.take_length] at hno
   have HN := hide hno; clear hno
   go_wp2
   go_ret
   exact ⟨ret_bool HN.out.symm, rfl⟩
end Go.Proofs.YtceaeiaoanhlnaaGreatDoor
namespace Go.Proofs.YtceaeiaoanhlnaaGreatDoor
open Go.ChangeShapes Go.WideShapes Go.ChangeAt Go.RowKit
def sameInts (xs ys : List Int) : Bool := decide (xs = ys)
theorem sameInts_any (xs ys : List Int) (u v : Value) (w : World) (hx : Ints w u xs) (hy : Ints w v ys) :
  Calls Tryz.prog 13 #[u, v] w fun e w' => e = .returned (.bool (sameInts xs ys)) ∧ Ext w w' := by
 have HX := hide hx
 have HY := hide hy
 obtain ⟨hl1, a, cap, rfl⟩ := hx.shape
 obtain ⟨hl2, a', cap', rfl⟩ := hy.shape
 clear hx hy
 by_cases hlen : xs.length = ys.length
 ·have hlb : ((xs.length : Int) != (ys.length : Int)) = false := by simp [hlen]
  have HLEN := hide hlen; clear hlen
  go_enter Tryz.func13, Tryz.ntmps13
  go_wp2
  go_loopw [5] (fun i wr => ∃ k : Nat, k ≤ xs.length ∧ i = .int .i64 k ∧ Ext w wr ∧ xs.take k = ys.take k) (fun i _ => xs.length - (intOf i).toNat)
  case atStart => exact ⟨0, Nat.zero_le _, rfl, Below.refl _ _, rfl⟩
  case round =>
   obtain ⟨k, hk, rfl, hE, hT⟩ := hrel
   have HT := hide hT; clear hT
   by_cases hlt : k < xs.length
   ·have hlt2 : k < ys.length := by have := HLEN.out; omega
    obtain ⟨b, off, rfl, hbb, c0⟩ := ints_at (HX.out.ext hE) k hlt
    obtain ⟨b', off', rfl, hbb', c1⟩ := ints_at (HY.out.ext hE) k hlt2
    by_cases he : xs[k] = ys[k]
    ·have heb : (xs[k] != ys[k]) = false := by simp [he]
     have HE := hide he; clear he
     go_wp2
     go_quiet (fail)
     go_wp2
     go_roundw
     case rel => exact ⟨k + 1, by omega, by go_num, Below.drewN' hE _, by rw [take_snoc xs k hlt, take_snoc ys k hlt2, HT.out, HE.out]⟩
     case measure => simp [intOf]; omega
    ·have heb : (xs[k] != ys[k]) = true := by simp [he]
     have hf : sameInts xs ys = false := decide_eq_false (fun h => he (by subst h; rfl))
     have HF := hide hf; clear hf he
     go_wp2
     go_quiet (fail)
     go_wp2
     go_ret
     exact ⟨ret_bool HF.out.symm, Below.drewN' hE _⟩
   ·have hge : xs.length ≤ k := by omega
    have hf : sameInts xs ys = true := decide_eq_true (by
     have := HT.out; rw [List.take_of_length_le hge, List.take_of_length_le (by have := HLEN.out; omega)] at this; exact this)
    have HF := hide hf; clear hf
    go_wp2
    go_ret
    exact ⟨ret_bool HF.out.symm, hE⟩
 ·have hlb : ((xs.length : Int) != (ys.length : Int)) = true := by simp; omega
  have hf : sameInts xs ys = false := decide_eq_false (fun h => hlen (by rw [h]))
  have HF := hide hf; clear hf hlen
  go_enter Tryz.func13, Tryz.ntmps13
  go_wp2
  go_ret
  exact ⟨ret_bool HF.out.symm, Below.refl _ _⟩
end Go.Proofs.YtceaeiaoanhlnaaGreatDoor
