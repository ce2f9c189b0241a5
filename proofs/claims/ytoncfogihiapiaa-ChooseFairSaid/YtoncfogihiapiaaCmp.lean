
/- cmp.Compare at int and uint64, cmp.Or at two. -/
import Derived.Test.YtoncfogihiapiaaRingA
namespace Go.Proofs.Ytoncfogihiapiaa
open Go.ChangeShapes Go.WideShapes Go.ChangeAt Go.RowKit
def cmpI (x y : Int) : Int := if x < y then -1 else if y < x then 1 else 0
theorem cmpU_any (x y : Int) (w : World) : Calls Try.prog 39 #[.int .u64 x, .int .u64 y] w fun e w' => e = .returned (.int .i64 (cmpI x y)) ∧ w = w' := by
  by_cases h1 : x < y
  · have hf : cmpI x y = -1 := by rw [cmpI, if_pos h1]
    have HF := hide hf; clear hf
    go_enter Try.func39, Try.ntmps39
    go_wp2
    go_ret
    exact ⟨ret_int HF.out.symm, rfl⟩
  · by_cases h2 : y < x
    · have hf : cmpI x y = 1 := by rw [cmpI, if_neg h1, if_pos h2]
      have HF := hide hf; clear hf
      go_enter Try.func39, Try.ntmps39
      go_wp2
      go_ret
      exact ⟨ret_int HF.out.symm, rfl⟩
    · have hf : cmpI x y = 0 := by rw [cmpI, if_neg h1, if_neg h2]
      have HF := hide hf; clear hf
      go_enter Try.func39, Try.ntmps39
      go_wp2
      go_ret
      exact ⟨ret_int HF.out.symm, rfl⟩
theorem cmpI_any (x y : Int) (w : World) : Calls Try.prog 40 #[.int .i64 x, .int .i64 y] w fun e w' => e = .returned (.int .i64 (cmpI x y)) ∧ w = w' := by
  by_cases h1 : x < y
  · have hf : cmpI x y = -1 := by rw [cmpI, if_pos h1]
    have HF := hide hf; clear hf
    go_enter Try.func40, Try.ntmps40
    go_wp2
    go_ret
    exact ⟨ret_int HF.out.symm, rfl⟩
  · by_cases h2 : y < x
    · have hf : cmpI x y = 1 := by rw [cmpI, if_neg h1, if_pos h2]
      have HF := hide hf; clear hf
      go_enter Try.func40, Try.ntmps40
      go_wp2
      go_ret
      exact ⟨ret_int HF.out.symm, rfl⟩
    · have hf : cmpI x y = 0 := by rw [cmpI, if_neg h1, if_neg h2]
      have HF := hide hf; clear hf
      go_enter Try.func40, Try.ntmps40
      go_wp2
      go_ret
      exact ⟨ret_int HF.out.symm, rfl⟩
def orI (a b : Int) : Int := if a = 0 then b else a
set_option maxHeartbeats 1000000 in
theorem or2_any (a b : Int) (B cap : Nat) (w : World) (h0 : w.cell? ⟨B, 0, none⟩ = some (.int .i64 a)) (h1 : w.cell? ⟨B, 1, none⟩ = some (.int .i64 b)) :
    Calls Try.prog 38 #[.slice (some ⟨B, 0, none⟩) 2 cap] w fun e w' => e = .returned (.int .i64 (orI a b)) ∧ w = w' := by
  go_enter Try.func38, Try.ntmps38
  go_wp2
  go_loop [8] (fun i => ∃ k : Nat, k ≤ 2 ∧ i = .int .i64 k ∧ (1 ≤ k → a = 0) ∧ (2 ≤ k → b = 0)) (fun i => 2 - (intOf i).toNat)
  case atStart => exact ⟨0, by omega, rfl, fun h => by omega, fun h => by omega⟩
  case round =>
    obtain ⟨k, hk, rfl, ha, hb⟩ := hrel
    have HA := hide ha; clear ha
    have HB := hide hb; clear hb
    by_cases hk0 : k = 0
    · subst hk0
      by_cases h : a = 0
      · subst h
        go_wp2
        go_round
        case rel => exact ⟨1, by omega, rfl, by simp, by simp⟩
        case measure => simp [intOf]
      · have hd : (a == 0) = false := by simp [h]
        have hf : orI a b = a := by rw [orI, if_neg h]
        have HF := hide hf; clear hf
        have HH := hide h; clear h
        go_wp2
        go_ret
        exact ⟨ret_int HF.out.symm, rfl⟩
    · by_cases hk1 : k = 1
      · subst hk1
        have ha := HA.out (by omega)
        subst ha
        by_cases h : b = 0
        · subst h
          go_wp2
          go_round
          case rel => exact ⟨2, by omega, rfl, by simp, by simp⟩
          case measure => simp [intOf]
        · have hd : (b == 0) = false := by simp [h]
          have hf : orI 0 b = b := by rw [orI, if_pos rfl]
          have HF := hide hf; clear hf
          have HH := hide h; clear h
          go_wp2
          go_ret
          exact ⟨ret_int HF.out.symm, rfl⟩
      · obtain rfl : k = 2 := by omega
        have ha := HA.out (by omega)
        have hb := HB.out (by omega)
        subst ha hb
        go_wp2
        go_ret
        exact ⟨rfl, rfl⟩
end Go.Proofs.Ytoncfogihiapiaa
