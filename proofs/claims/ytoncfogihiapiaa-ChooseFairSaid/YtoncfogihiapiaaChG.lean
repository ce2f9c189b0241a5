/- lives of layer 12; the reference's Load. -/
import Derived.Test.YtoncfogihiapiaaRingL
import Derived.Test.YtoncfogihiapiaaChF
namespace Go.Proofs.Ytoncfogihiapiaa
open Go.ChangeShapes Go.WideShapes Go.ChangeAt Go.RowKit Go.Maps Go.Shelf
set_option maxRecDepth 100000 in
set_option maxHeartbeats 2000000 in
theorem rload_any (L : List (Int × Int)) (n : Int) (v : Value) (w : World) (hs : Parts w v L) :
    Calls Try.prog 10 #[v, .int .i64 n] w fun e w' => e = .returned (.int .i64 (loadI L n)) ∧ w = w' := by
  obtain ⟨hl, a, cap, rfl⟩ := hs.shape
  have HC := hide hs; clear hs
  go_enter Try.func10, Try.ntmps10
  go_wp2
  go_loopw [5] (fun i wr => ∃ k : Nat, k ≤ L.length ∧ i = .int .i64 k ∧ loadF (L.take k) n = none ∧ wr = w)
    (fun i _ => L.length - (intOf i).toNat)
  case atStart => exact ⟨0, Nat.zero_le _, rfl, by simp [loadF], rfl⟩
  case round =>
    obtain ⟨k, hk, rfl, hno, rfl⟩ := hrel
    by_cases hlt : k < L.length
    · obtain ⟨b, off, rfl, hbb, hc1, hc2⟩ := parts_at HC.out k hlt
      have hcs := loadF_succ L k hlt n
      rw [hno] at hcs
      have hat : loadF (L.take (k+1)) n = some L[k].2 → loadI L n = L[k].2 := fun h => by
        unfold loadI
        have e : loadF L n = some L[k].2 := loadF_take L (k+1) n _ h
        rw [e]; rfl
      obtain ⟨⟨x, c⟩, hx⟩ : ∃ x, L[k] = x := ⟨_, rfl⟩
      rw [hx] at hc1 hc2 hcs hat
      clear hx hno
      by_cases he : x = n
      · subst he
        have hin : loadI L x = c := hat (by rw [hcs]; exact if_pos rfl)
        have HIN := hide hin
        clear hin hcs hat
        go_wp2
        go_ret
        exact ⟨ret_int HIN.out.symm, rfl⟩
      · have hne : (x == n) = false := by simp [he]
        have hcs2 : loadF (L.take (k+1)) n = none := by rw [hcs]; exact if_neg (fun e => he e.symm)
        have HCS := hide hcs2
        clear hcs he hcs2 hat
        go_wp2
        go_roundw
        case rel => exact ⟨k + 1, hlt, by go_num, HCS.out, trivial⟩
        case measure => simp [intOf]; omega
    · obtain rfl : k = L.length := by omega
      rw [List.take_length] at hno
      have hz : loadI L n = 0 := by unfold loadI; rw [hno]; rfl
      have HN := hide hz; clear hno hz
      go_wp2
      go_ret
      exact ⟨ret_int HN.out.symm, rfl⟩
theorem own_lit {w : World} {cs : Array Value} {e : TypeId} {size n : Nat} (hm : n ≤ maxLen) (hs : cs.size = n * size) : (w.alloc (.cells cs e)).ownsRow w.heap.size e size (.slice (some ⟨w.heap.size, 0, none⟩) n n) n cs.toList :=
  ⟨by simpa using hs, .inr ⟨w.heap.size, n, cs, rfl, Nat.le_refl _, heap_alloc_new w _, Nat.le_refl _, hm, hs, by rw [List.take_of_length_le (by simp; omega)]⟩⟩
theorem parts_lit (w : World) (a b c d : Int) (e : TypeId) : Parts (w.alloc (.cells #[.int .i64 a, .int .i64 b, .int .i64 c, .int .i64 d] e)) (.slice (some ⟨w.heap.size, 0, none⟩) 2 2) [(a, b), (c, d)] :=
  Sl.of_own (enc := encP) (size := 2) encP_len' (xs := [(a, b), (c, d)]) (own_lit (w := w) (cs := #[.int .i64 a, .int .i64 b, .int .i64 c, .int .i64 d]) (e := e) (size := 2) (n := 2) (by decide) (by rfl)) (by simp)
theorem ints_lit (w : World) (a b : Int) (e : TypeId) : Ints (w.alloc (.cells #[.int .i64 a, .int .i64 b] e)) (.slice (some ⟨w.heap.size, 0, none⟩) 2 2) [a, b] :=
  Sl.of_own (enc := encI) (size := 1) encI_len (xs := [a, b]) (own_lit (w := w) (cs := #[.int .i64 a, .int .i64 b]) (e := e) (size := 1) (n := 2) (by decide) (by rfl)) (by simp)
theorem uints_lit (w : World) (a b : Int) (e : TypeId) : UInts (w.alloc (.cells #[.int .u64 a, .int .u64 b] e)) (.slice (some ⟨w.heap.size, 0, none⟩) 2 2) [a, b] :=
  Sl.of_own (enc := encU) (size := 1) encU_len (xs := [a, b]) (own_lit (w := w) (cs := #[.int .u64 a, .int .u64 b]) (e := e) (size := 1) (n := 2) (by decide) (by rfl)) (by simp)
theorem pick0_any (w : World) (kind : Int) (n2 cap2 : Nat) (a2 : Option Addr) (Br Bd : Nat) (key : Int) :
    Calls Try.prog 16 #[.int .i64 kind, .pointer (some ⟨Br, 0, none⟩), .slice none 0 0, .int .u64 key, .slice a2 n2 cap2, .pointer (some ⟨Bd, 0, none⟩)] w fun e w' => e = .returned (.tuple #[.int .i64 0, .bool false]) ∧ Ext w w' := by
  go_enter Try.func16, Try.ntmps16
  go_wp2_with fail
  go_ret2
  refine ⟨rfl, ?_⟩
  refine Below.alloc (Below.alloc (Below.alloc (Below.alloc (Below.alloc (Below.refl _ w) (Nat.le_refl _) _) ?_ _) ?_ _) ?_ _) ?_ _ <;> simp <;> omega
theorem RingAt.shape' {w : World} {r : Value} {n : Nat} {P : List (Int × Int)} (h : RingAt w r n P) : ∃ B, r = .pointer (some ⟨B, 0, none⟩) := by
  obtain ⟨_, _, B, a, cap, rfl, _⟩ := h; exact ⟨B, rfl⟩
end Go.Proofs.Ytoncfogihiapiaa
