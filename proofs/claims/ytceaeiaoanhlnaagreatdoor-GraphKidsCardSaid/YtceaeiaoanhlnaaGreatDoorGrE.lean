import Derived.Test.YtceaeiaoanhlnaaGreatDoorGrD
import Derived.Test.YtceaeiaoanhlnaaGreatDoorGkH
namespace Go.Proofs.YtceaeiaoanhlnaaGreatDoor
open Go.ChangeShapes Go.WideShapes Go.ChangeAt Go.RowKit Go.Lib Go.Shelf Go.Maps
theorem rdep_any (c : ConfD) (w : World) (h : chkC c = 0) : Calls Tryz.prog 15 #[.agg (encC c).toArray] w fun e w' => e = .returned (.int .i64 (depthC c : Int)) ∧ Ext w w' := by
 have hx : Ext w (w.alloc (.cells (encC c).toArray 30)) := (Below.refl _ _).alloc (Nat.le_refl _) _
 have hb1 := heap_alloc_new w (.cells (encC c).toArray 30)
 obtain ⟨-, -, -, h1, h2, -⟩ := chk_num h
 have hd0 : 0 ≤ c.life / c.hop := Int.ediv_nonneg (by omega) (by omega)
 have hd1 : c.life / c.hop ≤ c.life := Int.ediv_le_self _ (by omega)
 have hh0 : ¬ c.hop = 0 := by omega
 have hhb : (c.hop == 0) = false := by simp [hh0]
 have hq : c.life.tdiv c.hop = c.life / c.hop := Int.tdiv_eq_ediv_of_nonneg (by omega)
 obtain ⟨z, hz⟩ : ∃ z, c.life / c.hop = z := ⟨_, rfl⟩
 have hdep : ((depthC c : Nat) : Int) = c.life / c.hop + 1 := by unfold depthC; omega
 rw [hdep]
 rw [hz] at hd0 hd1 hq ⊢
 clear hdep hz
 have hwz : IntKind.i64.wrap z = z := by rw [IntKind.wrap_i64]; omega
 have hw : IntKind.i64.wrap (z + 1) = z + 1 := by rw [IntKind.wrap_i64]; omega
 go_enter Tryz.func15, Tryz.ntmps15
 go_upto_region 1 with (fail)
 show Code.wp _ _ _ _ (w.alloc (.cells (encC c).toArray 30))
 generalize w.alloc (.cells (encC c).toArray 30) = W at hx hb1 ⊢
 have q1 : W.cell? ⟨w.heap.size, 15, none⟩ = some (.int .i64 c.hop) := cell_box hb1 15 _ rfl
 have q2 : W.cell? ⟨w.heap.size, 16, none⟩ = some (.int .i64 c.life) := cell_box hb1 16 _ rfl
 have HX := hide hx
 clear hx hb1 h1 h2
 go_wp2
 go_ret
 exact ⟨rfl, HX.out⟩
end Go.Proofs.YtceaeiaoanhlnaaGreatDoor
