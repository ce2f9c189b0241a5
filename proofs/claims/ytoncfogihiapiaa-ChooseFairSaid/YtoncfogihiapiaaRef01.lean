
/- What the references' package 1 computes. -/
import Derived.Test.YtoncfogihiapiaaBase
namespace Go.Proofs.Ytoncfogihiapiaa
open Go.ChangeShapes Go.WideShapes Go.ChangeAt Go.RowKit
def around (n m : Int) : Int := (if n < 0 then -(n+1) else n) % m
theorem around_bd (n m : Int) (hm : 1 ≤ m) : 0 ≤ around n m ∧ around n m < m := by
  unfold around; exact ⟨Int.emod_nonneg _ (by omega), Int.emod_lt_of_pos _ (by omega)⟩

set_option maxHeartbeats 400000 in
theorem around_any (n m : Int) (w : World) (hn : I64 n) (hm : 1 ≤ m ∧ m ≤ 9223372036854775807) :
    Calls Try.prog 15 #[.int .i64 n, .int .i64 m] w fun e w' => e = .returned (.int .i64 (around n m)) ∧ w = w' := by
  unfold I64 at hn
  by_cases h : n < 0
  · have e1 : (-(n + 1)).tmod m = -(n + 1) % m := Int.tmod_eq_emod_of_nonneg (by omega)
    go_enter Try.func15, Try.ntmps15
    go_wp2
    go_ret
    exact ⟨ret_int (by rw [around, if_pos h]), rfl⟩
  · go_enter Try.func15, Try.ntmps15
    go_wp2
    go_ret
    exact ⟨ret_int (by rw [around, if_neg (by omega)]), rfl⟩
end Go.Proofs.Ytoncfogihiapiaa
