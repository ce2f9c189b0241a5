
/- Point, Key: some key. -/
import Derived.Test.YtoncfogihiapiaaRingV
namespace Go.Proofs.Ytoncfogihiapiaa
open Go.ChangeShapes Go.WideShapes Go.ChangeAt Go.RowKit Go.Sort Go.Shelf
theorem point_any (id k : Int) (w : World) : Calls Try.prog 83 #[.int .i64 id, .int .i64 k] w fun e w' => ∃ z, e = .returned (.int .u64 z) ∧ w = w' := by
  have h1 : ∀ u : World, Calls Try.prog 93 #[.int .u64 0, .int .u64 (IntKind.u64.wrap id)] u fun e w' => e = .returned (.int .u64 (mix 0 (IntKind.u64.wrap id))) ∧ u = w' := fun u => rmix_any 0 _ u (by unfold U64; omega) (wrap_u64_bd _)
  have h2 : ∀ u : World, Calls Try.prog 93 #[.int .u64 (mix 0 (IntKind.u64.wrap id)), .int .u64 (IntKind.u64.wrap k)] u fun e w' => e = .returned (.int .u64 (mix (mix 0 (IntKind.u64.wrap id)) (IntKind.u64.wrap k))) ∧ u = w' := fun u => rmix_any _ _ u (mix_bd _ _) (wrap_u64_bd _)
  have H1 := hide h1
  have H2 := hide h2
  clear h1 h2
  go_enter Try.func83, Try.ntmps83
  go_wp2_with fail
  refine (H1.out _).mono ?_
  rintro e w' ⟨rfl, rfl⟩
  go_wp2_with fail
  refine (H2.out _).mono ?_
  rintro e w' ⟨rfl, rfl⟩
  go_wp2_with fail
  go_ret
  exact ⟨_, rfl, rfl⟩
end Go.Proofs.Ytoncfogihiapiaa
