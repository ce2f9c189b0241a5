/- Merged texts (HasA). -/
import Derived.Test.YtceaeiaoanhlnaaGreatDoorZrle
namespace Go.Proofs.YtceaeiaoanhlnaaGreatDoor
open Go.ChangeShapes Go.WideShapes Go.ChangeAt Go.RowKit Go.Lib Go.Shelf
theorem contains_succ (l : List Int) (n : Int) (k : Nat) (h : k < l.length) : (l.take (k+1)).contains n = ((l.take k).contains n || l[k] == n) := by
 rw [Bool.eq_iff_iff]
 simp only [List.contains_iff_mem, take_snoc l k h, List.mem_append, List.mem_singleton, Bool.or_eq_true, beq_iff_eq]
 exact or_congr Iff.rfl eq_comm
set_option maxRecDepth 100000 in
set_option maxHeartbeats 2000000 in
theorem has_any (l : List Int) (n : Int) (v : Value) (w : World) (hs : Ints w v l) :
  Calls Tryz.prog 46 #[v, .int .i64 n] w fun e w' => e = .returned (.bool (l.contains n)) ∧ w = w' := by
 obtain ⟨hl, a, cap, rfl⟩ := hs.shape
 have HC := hide hs; clear hs
 go_enter Tryz.func46, Tryz.ntmps46
 go_wp2
 go_loopw [5] (fun i wr => ∃ k : Nat, k ≤ l.length ∧ i = .int .i64 k ∧ (l.take k).contains n = false ∧ wr = w)
  (fun i _ => l.length - (intOf i).toNat)
 case atStart => exact ⟨0, Nat.zero_le _, rfl, by simp, rfl⟩
 case round =>
  obtain ⟨k, hk, rfl, hno, rfl⟩ := hrel
  by_cases hlt : k < l.length
  ·obtain ⟨b, off, rfl, hbb, hc⟩ := ints_at HC.out k hlt
   have hcs := contains_succ l n k hlt
   have hm : l[k] ∈ l := List.getElem_mem hlt
   obtain ⟨x, hx⟩ : ∃ x, l[k] = x := ⟨_, rfl⟩
   rw [hx] at hc hcs hm
   rw [hno, Bool.false_or] at hcs
   clear hx hno
   by_cases he : x = n
   ·subst he
    have hin : l.contains x = true := by simpa using hm
    have HIN := hide hin
    clear hin hm hcs
    go_wp2
    go_ret
    exact ⟨ret_bool HIN.out.symm, rfl⟩
   ·have hne : (x == n) = false := by simp [he]
    rw [hne] at hcs
    have HCS := hide hcs
    clear hcs he hm
    go_wp2
    go_roundw
    case rel => exact ⟨k + 1, hlt, by go_num, HCS.out, trivial⟩
    case measure => simp [intOf]; omega
  ·obtain rfl : k = l.length := by omega
   rw [List.take_length] at hno
   have HN := hide hno; clear hno
   go_wp2
   go_ret
   exact ⟨ret_bool HN.out.symm, rfl⟩
end Go.Proofs.YtceaeiaoanhlnaaGreatDoor
