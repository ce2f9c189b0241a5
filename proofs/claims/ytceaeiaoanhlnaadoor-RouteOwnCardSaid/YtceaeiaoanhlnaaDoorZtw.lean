import Derived.Test.YtceaeiaoanhlnaaDoorZfw

/- ref08.Rule from its 10-th statement on (printed by wip/gen_rule2.py). -/
namespace Go.Proofs.YtceaeiaoanhlnaaDoor
open Go.ChangeShapes Go.WideShapes Go.ChangeAt Go.RowKit Go.Lib Go.Shelf
set_option maxRecDepth 100000 in
set_option maxHeartbeats 32000000 in
theorem rule_tail10 (L : List Int) (s : ByteArray) (w wc : World) (b6 g3 xc : Nat) (a : Option Addr) (c : Nat) (u5 : Value) (x : Nat → Value) (e0 : x 0 = .slice a L.length c) (e1 : x 1 = undef) (e2 : x 2 = .pointer (some ⟨w.heap.size, 0, none⟩)) (e3 : x 3 = .slice (some ⟨g3, 0, none⟩) 8 xc) (e4 : x 4 = .int .i64 8) (e5 : x 5 = u5) (e6 : x 6 = .pointer (some ⟨b6, 0, none⟩)) (r : RuleD) (hrc : r.core = core6 s L) (hRS : RS w wc w.heap.size b6 (.slice (some ⟨g3, 0, none⟩) 8 xc) (KL L 8) r) (hs5 : bl s = pathN (kN L 0 / 3)) :
  Code.wp Tryd.prog (ruleTail 10) (bodyPost Tryd.prog Tryd.f26 (RuleP L w)) ⟨frameOf 183 x, []⟩ wc := by
 conv => arg 2; whnf
 rw [frame183]
 simp only [e0, e1, e2, e3, e4, e5, e6]
 clear e0 e1 e2 e3 e4 e5 e6
 have HRC := hide hrc
 have HRS := hide hRS
 have HS5 := hide hs5
 clear hrc hRS hs5
 have ck := HRS.out.kc 5 _ (KL_get L 8 5 (by omega))
 have t0 : ((kN L 5 : Int)).tmod 5 = ((kN L 5 : Int)) % 5 := Int.tmod_eq_emod_of_nonneg (by omega)
 have t1 : IntKind.i64.wrap ((kN L 5 : Int) % 5) = (kN L 5 : Int) % 5 := IntWalk.i64_in _ (by have := kN_bd L 5; omega)
 go_upto_if 129 with (fail)
 clear ck t0 t1
 go_cut [] from 7 (fun w' => ∃ r', r'.core = core7 s L ∧ RS w w' w.heap.size b6 (.slice (some ⟨g3, 0, none⟩) 8 xc) (KL L 8) r')
 case first =>
  by_cases hm : (kN L 5 : Int) % 5 = 1
  ·have q10 := HRS.out.box.cellR.2 10 _ rfl
   have z10 := HRS.out.box.frozen 10
   have hRSb := HRS.out.keep ((Below.refl _ wc).alloc (Nat.le_refl _) (.cells #[.string ⟨#[98]⟩] 9))
   have q10a := hRSb.box.cellR.2 10 _ rfl
   have z10a := hRSb.box.frozen 10
   clear hRSb
   have h9 := HRS.out.laidD ⟨#[98]⟩
   have H9 := hide h9
   clear h9
   go_wp2
   go_meet
   case rel => exact ⟨_, by unfold core7; rw [if_pos hm, ← HRC.out]; rfl, H9.out⟩
  ·go_wp2
   go_meet
   case rel => exact ⟨r, by rw [HRC.out]; unfold core7; rw [if_neg hm], HRS.out⟩
 case rest =>
  clear HRS HRC
  obtain ⟨r, hrc, hRSr⟩ := hcut
  have HRC := hide hrc
  have HRS := hide hRSr
  clear hrc hRSr
  (try simp only [Exit.inBlock, Exit.then])
  apply_assumption
  exact of_frame183 _ rfl (rule_tail11 L s w _ b6 g3 xc a c u5 _ rfl rfl rfl rfl rfl rfl rfl r HRC.out HRS.out HS5.out)

end Go.Proofs.YtceaeiaoanhlnaaDoor

/- ref08.Rule from its 9-th statement on (printed by wip/gen_rule2.py). -/
namespace Go.Proofs.YtceaeiaoanhlnaaDoor
open Go.ChangeShapes Go.WideShapes Go.ChangeAt Go.RowKit Go.Lib Go.Shelf
set_option maxRecDepth 100000 in
set_option maxHeartbeats 32000000 in
theorem rule_tail9 (L : List Int) (s : ByteArray) (w wc : World) (b6 g3 xc : Nat) (a : Option Addr) (c : Nat) (u5 : Value) (x : Nat → Value) (e0 : x 0 = .slice a L.length c) (e1 : x 1 = undef) (e2 : x 2 = .pointer (some ⟨w.heap.size, 0, none⟩)) (e3 : x 3 = .slice (some ⟨g3, 0, none⟩) 8 xc) (e4 : x 4 = .int .i64 8) (e5 : x 5 = u5) (e6 : x 6 = .pointer (some ⟨b6, 0, none⟩)) (r : RuleD) (hrc : r.core = core5 s L) (hRS : RS w wc w.heap.size b6 (.slice (some ⟨g3, 0, none⟩) 8 xc) (KL L 8) r) (hs5 : bl s = pathN (kN L 0 / 3)) :
  Code.wp Tryd.prog (ruleTail 9) (bodyPost Tryd.prog Tryd.f26 (RuleP L w)) ⟨frameOf 183 x, []⟩ wc := by
 conv => arg 2; whnf
 rw [frame183]
 simp only [e0, e1, e2, e3, e4, e5, e6]
 clear e0 e1 e2 e3 e4 e5 e6
 have HRC := hide hrc
 have HRS := hide hRS
 have HS5 := hide hs5
 clear hrc hRS hs5
 have ck := HRS.out.kc 5 _ (KL_get L 8 5 (by omega))
 have t0 : ((kN L 5 : Int)).tmod 4 = ((kN L 5 : Int)) % 4 := Int.tmod_eq_emod_of_nonneg (by omega)
 have t1 : IntKind.i64.wrap ((kN L 5 : Int) % 4) = (kN L 5 : Int) % 4 := IntWalk.i64_in _ (by have := kN_bd L 5; omega)
 go_upto_if 113 with (fail)
 clear ck t0 t1
 go_cut [] from 7 (fun w' => ∃ r', r'.core = core6 s L ∧ RS w w' w.heap.size b6 (.slice (some ⟨g3, 0, none⟩) 8 xc) (KL L 8) r')
 case first =>
  by_cases hm : (kN L 5 : Int) % 4 = 1
  ·have hEa : Ext wc (wc.alloc (.cells #[.string ⟨#[]⟩, .string ⟨#[49]⟩, .string ⟨#[50]⟩] 9)) := (Below.refl _ _).alloc (Nat.le_refl _) _
   have hRSa := RS.keep HRS.out hEa
   have hsa : (wc.alloc (.cells #[.string ⟨#[]⟩, .string ⟨#[49]⟩, .string ⟨#[50]⟩] 9)).heap.size = wc.heap.size + 1 := by simp
   have HSA := hide hsa
   have HRSA := hide hRSa
   clear hsa hRSa hEa
   rcases (by omega : kN L 5 / 4 % 3 = 0 ∨ kN L 5 / 4 % 3 = 1 ∨ kN L 5 / 4 % 3 = 2) with hd | hd | hd
   ·have ck5 := HRS.out.kc 5 _ (KL_get L 8 5 (by omega))
    have u0_0 : ((kN L 5 : Int)).tdiv 4 = ((kN L 5 : Int)) / 4 := Int.tdiv_eq_ediv_of_nonneg (by omega)
    have u1_1 : IntKind.i64.wrap ((kN L 5 : Int) / 4) = (kN L 5 : Int) / 4 := IntWalk.i64_in _ (by have := kN_bd L 5; omega)
    have u0_2 : ((kN L 5 : Int) / 4).tmod 3 = 0 := by rw [Int.tmod_eq_emod_of_nonneg (by omega)]; omega
    have q9 := HRS.out.box.cellR.2 9 _ rfl
    have z9 := HRS.out.box.frozen 9
    have hcr : core6 s L = { core5 s L with S := [(⟨#[97]⟩, ⟨#[]⟩)] } := by unfold core6; rw [if_pos hm, hd]; rfl
    have HCR := hide hcr
    clear hcr hd
    have ck5a := HRSA.out.kc 5 _ (KL_get L 8 5 (by omega))
    have hRSb := HRSA.out.keep ((Below.refl _ (wc.alloc (.cells #[.string ⟨#[]⟩, .string ⟨#[49]⟩, .string ⟨#[50]⟩] 9))).alloc (Nat.le_refl _) (.cells #[.string ⟨#[97]⟩, .string ⟨#[]⟩] 82))
    have q9a := hRSb.box.cellR.2 9 _ rfl
    have z9a := hRSb.box.frozen 9
    clear hRSb
    have h9 := HRSA.out.laidS ⟨#[97]⟩ ⟨#[]⟩
    rw [HSA.out] at h9
    have H9 := hide h9
    clear h9
    go_wp2
    go_meet
    case rel => exact ⟨_, by rw [HCR.out, ← HRC.out]; rfl, H9.out⟩
   ·have ck5 := HRS.out.kc 5 _ (KL_get L 8 5 (by omega))
    have u0_0 : ((kN L 5 : Int)).tdiv 4 = ((kN L 5 : Int)) / 4 := Int.tdiv_eq_ediv_of_nonneg (by omega)
    have u1_1 : IntKind.i64.wrap ((kN L 5 : Int) / 4) = (kN L 5 : Int) / 4 := IntWalk.i64_in _ (by have := kN_bd L 5; omega)
    have u0_2 : ((kN L 5 : Int) / 4).tmod 3 = 1 := by rw [Int.tmod_eq_emod_of_nonneg (by omega)]; omega
    have q9 := HRS.out.box.cellR.2 9 _ rfl
    have z9 := HRS.out.box.frozen 9
    have hcr : core6 s L = { core5 s L with S := [(⟨#[97]⟩, ⟨#[49]⟩)] } := by unfold core6; rw [if_pos hm, hd]; rfl
    have HCR := hide hcr
    clear hcr hd
    have ck5a := HRSA.out.kc 5 _ (KL_get L 8 5 (by omega))
    have hRSb := HRSA.out.keep ((Below.refl _ (wc.alloc (.cells #[.string ⟨#[]⟩, .string ⟨#[49]⟩, .string ⟨#[50]⟩] 9))).alloc (Nat.le_refl _) (.cells #[.string ⟨#[97]⟩, .string ⟨#[49]⟩] 82))
    have q9a := hRSb.box.cellR.2 9 _ rfl
    have z9a := hRSb.box.frozen 9
    clear hRSb
    have h9 := HRSA.out.laidS ⟨#[97]⟩ ⟨#[49]⟩
    rw [HSA.out] at h9
    have H9 := hide h9
    clear h9
    go_wp2
    go_meet
    case rel => exact ⟨_, by rw [HCR.out, ← HRC.out]; rfl, H9.out⟩
   ·have ck5 := HRS.out.kc 5 _ (KL_get L 8 5 (by omega))
    have u0_0 : ((kN L 5 : Int)).tdiv 4 = ((kN L 5 : Int)) / 4 := Int.tdiv_eq_ediv_of_nonneg (by omega)
    have u1_1 : IntKind.i64.wrap ((kN L 5 : Int) / 4) = (kN L 5 : Int) / 4 := IntWalk.i64_in _ (by have := kN_bd L 5; omega)
    have u0_2 : ((kN L 5 : Int) / 4).tmod 3 = 2 := by rw [Int.tmod_eq_emod_of_nonneg (by omega)]; omega
    have q9 := HRS.out.box.cellR.2 9 _ rfl
    have z9 := HRS.out.box.frozen 9
    have hcr : core6 s L = { core5 s L with S := [(⟨#[97]⟩, ⟨#[50]⟩)] } := by unfold core6; rw [if_pos hm, hd]; rfl
    have HCR := hide hcr
    clear hcr hd
    have ck5a := HRSA.out.kc 5 _ (KL_get L 8 5 (by omega))
    have hRSb := HRSA.out.keep ((Below.refl _ (wc.alloc (.cells #[.string ⟨#[]⟩, .string ⟨#[49]⟩, .string ⟨#[50]⟩] 9))).alloc (Nat.le_refl _) (.cells #[.string ⟨#[97]⟩, .string ⟨#[50]⟩] 82))
    have q9a := hRSb.box.cellR.2 9 _ rfl
    have z9a := hRSb.box.frozen 9
    clear hRSb
    have h9 := HRSA.out.laidS ⟨#[97]⟩ ⟨#[50]⟩
    rw [HSA.out] at h9
    have H9 := hide h9
    clear h9
    go_wp2
    go_meet
    case rel => exact ⟨_, by rw [HCR.out, ← HRC.out]; rfl, H9.out⟩
  ·go_wp2
   go_meet
   case rel => exact ⟨r, by rw [HRC.out]; unfold core6; rw [if_neg hm], HRS.out⟩
 case rest =>
  clear HRS HRC
  obtain ⟨r, hrc, hRSr⟩ := hcut
  have HRC := hide hrc
  have HRS := hide hRSr
  clear hrc hRSr
  (try simp only [Exit.inBlock, Exit.then])
  apply_assumption
  exact of_frame183 _ rfl (rule_tail10 L s w _ b6 g3 xc a c u5 _ rfl rfl rfl rfl rfl rfl rfl r HRC.out HRS.out HS5.out)

end Go.Proofs.YtceaeiaoanhlnaaDoor

/- ref08.Rule from its 8-th statement on (printed by wip/gen_rule2.py). -/
namespace Go.Proofs.YtceaeiaoanhlnaaDoor
open Go.ChangeShapes Go.WideShapes Go.ChangeAt Go.RowKit Go.Lib Go.Shelf
set_option maxRecDepth 100000 in
set_option maxHeartbeats 32000000 in
theorem rule_tail8 (L : List Int) (s : ByteArray) (w wc : World) (b6 g3 xc : Nat) (a : Option Addr) (c : Nat) (u5 : Value) (x : Nat → Value) (e0 : x 0 = .slice a L.length c) (e1 : x 1 = undef) (e2 : x 2 = .pointer (some ⟨w.heap.size, 0, none⟩)) (e3 : x 3 = .slice (some ⟨g3, 0, none⟩) 8 xc) (e4 : x 4 = .int .i64 8) (e5 : x 5 = u5) (e6 : x 6 = .pointer (some ⟨b6, 0, none⟩)) (r : RuleD) (hrc : r.core = core4 s L) (hRS : RS w wc w.heap.size b6 (.slice (some ⟨g3, 0, none⟩) 8 xc) (KL L 8) r) (hs5 : bl s = pathN (kN L 0 / 3)) :
  Code.wp Tryd.prog (ruleTail 8) (bodyPost Tryd.prog Tryd.f26 (RuleP L w)) ⟨frameOf 183 x, []⟩ wc := by
 conv => arg 2; whnf
 rw [frame183]
 simp only [e0, e1, e2, e3, e4, e5, e6]
 clear e0 e1 e2 e3 e4 e5 e6
 have HRC := hide hrc
 have HRS := hide hRS
 have HS5 := hide hs5
 clear hrc hRS hs5
 have ck := HRS.out.kc 5 _ (KL_get L 8 5 (by omega))
 have t0 : ((kN L 5 : Int)).tmod 3 = ((kN L 5 : Int)) % 3 := Int.tmod_eq_emod_of_nonneg (by omega)
 have t1 : IntKind.i64.wrap ((kN L 5 : Int) % 3) = (kN L 5 : Int) % 3 := IntWalk.i64_in _ (by have := kN_bd L 5; omega)
 go_upto_if 102 with (fail)
 clear ck t0 t1
 go_cut [] from 7 (fun w' => ∃ r', r'.core = core5 s L ∧ RS w w' w.heap.size b6 (.slice (some ⟨g3, 0, none⟩) 8 xc) (KL L 8) r')
 case first =>
  by_cases hm : (kN L 5 : Int) % 3 = 1
  ·have ck5 := HRS.out.kc 5 _ (KL_get L 8 5 (by omega))
   have u0_0 : ((kN L 5 : Int)).tdiv 3 = ((kN L 5 : Int)) / 3 := Int.tdiv_eq_ediv_of_nonneg (by omega)
   have u1_1 : IntKind.i64.wrap ((kN L 5 : Int) / 3) = (kN L 5 : Int) / 3 := IntWalk.i64_in _ (by have := kN_bd L 5; omega)
   have q8 := HRS.out.box.cellR.2 8 _ rfl
   have z8 := HRS.out.box.frozen 8
   have HPX := hide (pathof_k L 5)
   go_wp2_with fail
   refine (HPX.out _).mono ?_
   rintro e w9 ⟨rfl, E9⟩
   have hRS9 := RS.keep HRS.out E9
   have q8' := hRS9.box.cellR.2 8 _ rfl
   have z8' := hRS9.box.frozen 8
   go_wp2
   go_meet
   case rel => exact ⟨{ r with pre := pathA (kN L 5 / 3) }, by unfold core5; rw [if_pos hm, ← HRC.out]; rfl, hRS9.set 8 _ _ rfl hRS9.own⟩
  ·go_wp2
   go_meet
   case rel => exact ⟨r, by rw [HRC.out]; unfold core5; rw [if_neg hm], HRS.out⟩
 case rest =>
  clear HRS HRC
  obtain ⟨r, hrc, hRSr⟩ := hcut
  have HRC := hide hrc
  have HRS := hide hRSr
  clear hrc hRSr
  (try simp only [Exit.inBlock, Exit.then])
  apply_assumption
  exact of_frame183 _ rfl (rule_tail9 L s w _ b6 g3 xc a c u5 _ rfl rfl rfl rfl rfl rfl rfl r HRC.out HRS.out HS5.out)

end Go.Proofs.YtceaeiaoanhlnaaDoor
