
/- pursebearerref01.SameInts. -/
import Derived.Test.YtlaaapfpchnmeaaGreatDoorZs
namespace Go.Proofs.YtlaaapfpchnmeaaGreatDoor
open Go.ChangeShapes Go.WideShapes Go.ChangeAt Go.RowKit
def sameInts (xs ys : List Int) : Bool := decide (xs = ys)
theorem sameInts_any (xs ys : List Int) (u v : Value) (w : World) (hx : Ints w u xs) (hy : Ints w v ys) :
    Calls Tryz.prog 12 #[u, v] w fun e w' => e = .returned (.bool (sameInts xs ys)) ∧ Ext w w' := by
  have HX := hide hx
  have HY := hide hy
  obtain ⟨hl1, a, cap, rfl⟩ := hx.shape
  obtain ⟨hl2, a', cap', rfl⟩ := hy.shape
  clear hx hy
  by_cases hlen : xs.length = ys.length
  · have hlb : ((xs.length : Int) != (ys.length : Int)) = false := by simp [hlen]
    have HLEN := hide hlen; clear hlen
    go_enter Tryz.func12, Tryz.ntmps12
    go_wp2
    go_loopw [5] (fun i wr => ∃ k : Nat, k ≤ xs.length ∧ i = .int .i64 k ∧ Ext w wr ∧ xs.take k = ys.take k) (fun i _ => xs.length - (intOf i).toNat)
    case atStart => exact ⟨0, Nat.zero_le _, rfl, Below.refl _ _, rfl⟩
    case round =>
      obtain ⟨k, hk, rfl, hE, hT⟩ := hrel
      have HT := hide hT; clear hT
      by_cases hlt : k < xs.length
      · have hlt2 : k < ys.length := by have := HLEN.out; omega
        obtain ⟨b, off, rfl, hbb, c0⟩ := ints_at (HX.out.ext hE) k hlt
        obtain ⟨b', off', rfl, hbb', c1⟩ := ints_at (HY.out.ext hE) k hlt2
        by_cases he : xs[k] = ys[k]
        · have heb : (xs[k] != ys[k]) = false := by simp [he]
          have HE := hide he; clear he
          go_wp2
          go_quiet (fail)
          go_wp2
          go_roundw
          case rel => exact ⟨k + 1, by omega, by go_num, Below.drewN' hE _, by rw [take_snoc xs k hlt, take_snoc ys k hlt2, HT.out, HE.out]⟩
          case measure => simp [intOf]; omega
        · have heb : (xs[k] != ys[k]) = true := by simp [he]
          have hf : sameInts xs ys = false := decide_eq_false (fun h => he (by subst h; rfl))
          have HF := hide hf; clear hf he
          go_wp2
          go_quiet (fail)
          go_wp2
          go_ret
          exact ⟨ret_bool HF.out.symm, Below.drewN' hE _⟩
      · have hge : xs.length ≤ k := by omega
        have hf : sameInts xs ys = true := decide_eq_true (by
          have := HT.out; rw [List.take_of_length_le hge, List.take_of_length_le (by have := HLEN.out; omega)] at this; exact this)
        have HF := hide hf; clear hf
        go_wp2
        go_ret
        exact ⟨ret_bool HF.out.symm, hE⟩
  · have hlb : ((xs.length : Int) != (ys.length : Int)) = true := by simp; omega
    have hf : sameInts xs ys = false := decide_eq_false (fun h => hlen (by rw [h]))
    have HF := hide hf; clear hf hlen
    go_enter Tryz.func12, Tryz.ntmps12
    go_wp2
    go_ret
    exact ⟨ret_bool HF.out.symm, Below.refl _ _⟩
end Go.Proofs.YtlaaapfpchnmeaaGreatDoor
