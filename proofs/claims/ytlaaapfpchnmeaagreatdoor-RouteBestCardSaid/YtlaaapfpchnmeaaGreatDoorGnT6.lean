
/- ref08.Rule from its 6-th statement on (printed by wip/gen_rule2.py). -/
import Derived.Test.YtlaaapfpchnmeaaGreatDoorGnT7
namespace Go.Proofs.YtlaaapfpchnmeaaGreatDoor
open Go.ChangeShapes Go.WideShapes Go.ChangeAt Go.RowKit Go.Lib Go.Shelf
set_option maxRecDepth 100000 in
set_option maxHeartbeats 32000000 in
theorem rule_tail6 (L : List Int) (s : ByteArray) (w wc : World) (b6 g3 xc : Nat) (a : Option Addr) (c : Nat) (u5 : Value) (x : Nat → Value) (e0 : x 0 = .slice a L.length c) (e1 : x 1 = undef) (e2 : x 2 = .pointer (some ⟨w.heap.size, 0, none⟩)) (e3 : x 3 = .slice (some ⟨g3, 0, none⟩) 8 xc) (e4 : x 4 = .int .i64 8) (e5 : x 5 = u5) (e6 : x 6 = .pointer (some ⟨b6, 0, none⟩)) (r : RuleD) (hrc : r.core = core2 s L) (hRS : RS w wc w.heap.size b6 (.slice (some ⟨g3, 0, none⟩) 8 xc) (KL L 8) r) (hs5 : bl s = pathN (kN L 0 / 3)) :
    Code.wp Tryz.prog (ruleTail 6) (bodyPost Tryz.prog Tryz.f38 (RuleP L w)) ⟨frameOf 183 x, []⟩ wc := by
  conv => arg 2; whnf
  rw [frame183]
  simp only [e0, e1, e2, e3, e4, e5, e6]
  clear e0 e1 e2 e3 e4 e5 e6
  have HRC := hide hrc
  have HRS := hide hRS
  have HS5 := hide hs5
  clear hrc hRS hs5
  have ck := HRS.out.kc 4 _ (KL_get L 8 4 (by omega))
  have t0 : ((kN L 4 : Int)).tmod 5 = ((kN L 4 : Int)) % 5 := Int.tmod_eq_emod_of_nonneg (by omega)
  have t1 : IntKind.i64.wrap ((kN L 4 : Int) % 5) = (kN L 4 : Int) % 5 := IntWalk.i64_in _ (by have := kN_bd L 4; omega)
  go_upto_if 68 with (fail)
  clear ck t0 t1
  go_cut [] from 7 (fun w' => ∃ r', r'.core = core3 s L ∧ RS w w' w.heap.size b6 (.slice (some ⟨g3, 0, none⟩) 8 xc) (KL L 8) r')
  case first =>
    by_cases hm : (kN L 4 : Int) % 5 = 1
    · have ck4 := HRS.out.kc 4 _ (KL_get L 8 4 (by omega))
      have u0_0 : ((kN L 4 : Int)).tdiv 5 = ((kN L 4 : Int)) / 5 := Int.tdiv_eq_ediv_of_nonneg (by omega)
      have u1_1 : IntKind.i64.wrap ((kN L 4 : Int) / 5) = (kN L 4 : Int) / 5 := IntWalk.i64_in _ (by have := kN_bd L 4; omega)
      have u0_2 : ((kN L 4 : Int) / 5).tmod 4 = ((kN L 4 : Int) / 5) % 4 := Int.tmod_eq_emod_of_nonneg (by omega)
      have u1_3 : IntKind.i64.wrap ((kN L 4 : Int) / 5 % 4) = (kN L 4 : Int) / 5 % 4 := IntWalk.i64_in _ (by have := kN_bd L 4; omega)
      have u1_4 : IntKind.i64.wrap (1 + (kN L 4 : Int) / 5 % 4) = 1 + (kN L 4 : Int) / 5 % 4 := IntWalk.i64_in _ (by have := kN_bd L 4; omega)
      have q4 := HRS.out.box.cellR.2 4 _ rfl
      have z4 := HRS.out.box.frozen 4
      go_wp2
      go_meet
      case rel => exact ⟨{ r with mi := 1 + (kN L 4 : Int) / 5 % 4 }, by unfold core3; rw [if_pos hm, ← HRC.out]; rfl, HRS.out.set 4 _ _ rfl HRS.out.own⟩
    · go_wp2
      go_meet
      case rel => exact ⟨r, by rw [HRC.out]; unfold core3; rw [if_neg hm], HRS.out⟩
  case rest =>
    clear HRS HRC
    obtain ⟨r, hrc, hRSr⟩ := hcut
    have HRC := hide hrc
    have HRS := hide hRSr
    clear hrc hRSr
    (try simp only [Exit.inBlock, Exit.then])
    apply_assumption
    exact of_frame183 _ rfl (rule_tail7 L s w _ b6 g3 xc a c u5 _ rfl rfl rfl rfl rfl rfl rfl r HRC.out HRS.out HS5.out)

end Go.Proofs.YtlaaapfpchnmeaaGreatDoor
