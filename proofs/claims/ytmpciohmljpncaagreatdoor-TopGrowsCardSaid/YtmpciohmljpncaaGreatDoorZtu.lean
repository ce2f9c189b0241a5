/- Merged texts (Zt, Zu). -/
import Derived.Test.YtmpciohmljpncaaGreatDoorZf

/- ref08.Rule from its 10-th statement on (printed by wip/gen_rule2.py). -/
namespace Go.Proofs.YtmpciohmljpncaaGreatDoor
open Go.ChangeShapes Go.WideShapes Go.ChangeAt Go.RowKit Go.Lib Go.Shelf
set_option maxRecDepth 100000 in
set_option maxHeartbeats 32000000 in
theorem rule_tail10 (L : List Int) (s : ByteArray) (w wc : World) (b6 g3 xc : Nat) (a : Option Addr) (c : Nat) (u5 : Value) (x : Nat → Value) (e0 : x 0 = .slice a L.length c) (e1 : x 1 = undef) (e2 : x 2 = .pointer (some ⟨w.heap.size, 0, none⟩)) (e3 : x 3 = .slice (some ⟨g3, 0, none⟩) 8 xc) (e4 : x 4 = .int .i64 8) (e5 : x 5 = u5) (e6 : x 6 = .pointer (some ⟨b6, 0, none⟩)) (r : RuleD) (hrc : r.core = core6 s L) (hRS : RS w wc w.heap.size b6 (.slice (some ⟨g3, 0, none⟩) 8 xc) (KL L 8) r) (hs5 : bl s = pathN (kN L 0 / 3)) :
  Code.wp Tryz.prog (ruleTail 10) (bodyPost Tryz.prog Tryz.f27 (RuleP L w)) ⟨frameOf 183 x, []⟩ wc := by
 conv => arg 2; whnf
 rw [frame183]
 simp only [e0, e1, e2, e3, e4, e5, e6]
 clear e0 e1 e2 e3 e4 e5 e6
 have HRC := hide hrc
 have HRS := hide hRS
 have HS5 := hide hs5
 clear hrc hRS hs5
 have ck := HRS.out.kc 5 _ (KL_get L 8 5 (by omega))
 have t0 : ((kN L 5 : Int)).tmod 5 = ((kN L 5 : Int)) % 5 := Int.tmod_eq_emod_of_nonneg (by omega)
 have t1 : IntKind.i64.wrap ((kN L 5 : Int) % 5) = (kN L 5 : Int) % 5 := IntWalk.i64_in _ (by have := kN_bd L 5; omega)
 go_upto_if 129 with (fail)
 clear ck t0 t1
 go_cut [] from 7 (fun w' => ∃ r', r'.core = core7 s L ∧ RS w w' w.heap.size b6 (.slice (some ⟨g3, 0, none⟩) 8 xc) (KL L 8) r')
 case first =>
  by_cases hm : (kN L 5 : Int) % 5 = 1
  ·have q10 := HRS.out.box.cellR.2 10 _ rfl
   have z10 := HRS.out.box.frozen 10
   have hRSb := HRS.out.keep ((Below.refl _ wc).alloc (Nat.le_refl _) (.cells #[.string ⟨#[98]⟩] 9))
   have q10a := hRSb.box.cellR.2 10 _ rfl
   have z10a := hRSb.box.frozen 10
   clear hRSb
   have h9 := HRS.out.laidD ⟨#[98]⟩
   have H9 := hide h9
   clear h9
   go_wp2
   go_meet
   case rel => exact ⟨_, by unfold core7; rw [if_pos hm, ← HRC.out]; rfl, H9.out⟩
  ·go_wp2
   go_meet
   case rel => exact ⟨r, by rw [HRC.out]; unfold core7; rw [if_neg hm], HRS.out⟩
 case rest =>
  clear HRS HRC
  obtain ⟨r, hrc, hRSr⟩ := hcut
  have HRC := hide hrc
  have HRS := hide hRSr
  clear hrc hRSr
  (try simp only [Exit.inBlock, Exit.then])
  apply_assumption
  exact of_frame183 _ rfl (rule_tail11 L s w _ b6 g3 xc a c u5 _ rfl rfl rfl rfl rfl rfl rfl r HRC.out HRS.out HS5.out)

end Go.Proofs.YtmpciohmljpncaaGreatDoor

/- ref08.Rule from its 9-th statement on (printed by wip/gen_rule2.py). -/
namespace Go.Proofs.YtmpciohmljpncaaGreatDoor
open Go.ChangeShapes Go.WideShapes Go.ChangeAt Go.RowKit Go.Lib Go.Shelf
set_option maxRecDepth 100000 in
set_option maxHeartbeats 32000000 in
theorem rule_tail9 (L : List Int) (s : ByteArray) (w wc : World) (b6 g3 xc : Nat) (a : Option Addr) (c : Nat) (u5 : Value) (x : Nat → Value) (e0 : x 0 = .slice a L.length c) (e1 : x 1 = undef) (e2 : x 2 = .pointer (some ⟨w.heap.size, 0, none⟩)) (e3 : x 3 = .slice (some ⟨g3, 0, none⟩) 8 xc) (e4 : x 4 = .int .i64 8) (e5 : x 5 = u5) (e6 : x 6 = .pointer (some ⟨b6, 0, none⟩)) (r : RuleD) (hrc : r.core = core5 s L) (hRS : RS w wc w.heap.size b6 (.slice (some ⟨g3, 0, none⟩) 8 xc) (KL L 8) r) (hs5 : bl s = pathN (kN L 0 / 3)) :
  Code.wp Tryz.prog (ruleTail 9) (bodyPost Tryz.prog Tryz.f27 (RuleP L w)) ⟨frameOf 183 x, []⟩ wc := by
 conv => arg 2; whnf
 rw [frame183]
 simp only [e0, e1, e2, e3, e4, e5, e6]
 clear e0 e1 e2 e3 e4 e5 e6
 have HRC := hide hrc
 have HRS := hide hRS
 have HS5 := hide hs5
 clear hrc hRS hs5
 have ck := HRS.out.kc 5 _ (KL_get L 8 5 (by omega))
 have t0 : ((kN L 5 : Int)).tmod 4 = ((kN L 5 : Int)) % 4 := Int.tmod_eq_emod_of_nonneg (by omega)
 have t1 : IntKind.i64.wrap ((kN L 5 : Int) % 4) = (kN L 5 : Int) % 4 := IntWalk.i64_in _ (by have := kN_bd L 5; omega)
 go_upto_if 113 with (fail)
 clear ck t0 t1
 go_cut [] from 7 (fun w' => ∃ r', r'.core = core6 s L ∧ RS w w' w.heap.size b6 (.slice (some ⟨g3, 0, none⟩) 8 xc) (KL L 8) r')
 case first =>
  by_cases hm : (kN L 5 : Int) % 4 = 1
  ·have hEa : Ext wc (wc.alloc (.cells #[.string ⟨#[]⟩, .string ⟨#[49]⟩, .string ⟨#[50]⟩] 9)) := (Below.refl _ _).alloc (Nat.le_refl _) _
   have hRSa := RS.keep HRS.out hEa
   have hsa : (wc.alloc (.cells #[.string ⟨#[]⟩, .string ⟨#[49]⟩, .string ⟨#[50]⟩] 9)).heap.size = wc.heap.size + 1 := by simp
   have HSA := hide hsa
   have HRSA := hide hRSa
   clear hsa hRSa hEa
   rcases (by omega : kN L 5 / 4 % 3 = 0 ∨ kN L 5 / 4 % 3 = 1 ∨ kN L 5 / 4 % 3 = 2) with hd | hd | hd
   ·have ck5 := HRS.out.kc 5 _ (KL_get L 8 5 (by omega))
    have u0_0 : ((kN L 5 : Int)).tdiv 4 = ((kN L 5 : Int)) / 4 := Int.tdiv_eq_ediv_of_nonneg (by omega)
    have u1_1 : IntKind.i64.wrap ((kN L 5 : Int) / 4) = (kN L 5 : Int) / 4 := IntWalk.i64_in _ (by have := kN_bd L 5; omega)
    have u0_2 : ((kN L 5 : Int) / 4).tmod 3 = 0 := by rw [Int.tmod_eq_emod_of_nonneg (by omega)]; omega
    have q9 := HRS.out.box.cellR.2 9 _ rfl
    have z9 := HRS.out.box.frozen 9
    have hcr : core6 s L = { core5 s L with S := [(⟨#[97]⟩, ⟨#[]⟩)] } := by unfold core6; rw [if_pos hm, hd]; rfl
    have HCR := hide hcr
    clear hcr hd
    have ck5a := HRSA.out.kc 5 _ (KL_get L 8 5 (by omega))
    have hRSb := HRSA.out.keep ((Below.refl _ (wc.alloc (.cells #[.string ⟨#[]⟩, .string ⟨#[49]⟩, .string ⟨#[50]⟩] 9))).alloc (Nat.le_refl _) (.cells #[.string ⟨#[97]⟩, .string ⟨#[]⟩] 169))
    have q9a := hRSb.box.cellR.2 9 _ rfl
    have z9a := hRSb.box.frozen 9
    clear hRSb
    have h9 := HRSA.out.laidS ⟨#[97]⟩ ⟨#[]⟩
    rw [HSA.out] at h9
    have H9 := hide h9
    clear h9
    go_wp2
    go_meet
    case rel => exact ⟨_, by rw [HCR.out, ← HRC.out]; rfl, H9.out⟩
   ·have ck5 := HRS.out.kc 5 _ (KL_get L 8 5 (by omega))
    have u0_0 : ((kN L 5 : Int)).tdiv 4 = ((kN L 5 : Int)) / 4 := Int.tdiv_eq_ediv_of_nonneg (by omega)
    have u1_1 : IntKind.i64.wrap ((kN L 5 : Int) / 4) = (kN L 5 : Int) / 4 := IntWalk.i64_in _ (by have := kN_bd L 5; omega)
    have u0_2 : ((kN L 5 : Int) / 4).tmod 3 = 1 := by rw [Int.tmod_eq_emod_of_nonneg (by omega)]; omega
    have q9 := HRS.out.box.cellR.2 9 _ rfl
    have z9 := HRS.out.box.frozen 9
    have hcr : core6 s L = { core5 s L with S := [(⟨#[97]⟩, ⟨#[49]⟩)] } := by unfold core6; rw [if_pos hm, hd]; rfl
    have HCR := hide hcr
    clear hcr hd
    have ck5a := HRSA.out.kc 5 _ (KL_get L 8 5 (by omega))
    have hRSb := HRSA.out.keep ((Below.refl _ (wc.alloc (.cells #[.string ⟨#[]⟩, .string ⟨#[49]⟩, .string ⟨#[50]⟩] 9))).alloc (Nat.le_refl _) (.cells #[.string ⟨#[97]⟩, .string ⟨#[49]⟩] 169))
    have q9a := hRSb.box.cellR.2 9 _ rfl
    have z9a := hRSb.box.frozen 9
    clear hRSb
    have h9 := HRSA.out.laidS ⟨#[97]⟩ ⟨#[49]⟩
    rw [HSA.out] at h9
    have H9 := hide h9
    clear h9
    go_wp2
    go_meet
    case rel => exact ⟨_, by rw [HCR.out, ← HRC.out]; rfl, H9.out⟩
   ·have ck5 := HRS.out.kc 5 _ (KL_get L 8 5 (by omega))
    have u0_0 : ((kN L 5 : Int)).tdiv 4 = ((kN L 5 : Int)) / 4 := Int.tdiv_eq_ediv_of_nonneg (by omega)
    have u1_1 : IntKind.i64.wrap ((kN L 5 : Int) / 4) = (kN L 5 : Int) / 4 := IntWalk.i64_in _ (by have := kN_bd L 5; omega)
    have u0_2 : ((kN L 5 : Int) / 4).tmod 3 = 2 := by rw [Int.tmod_eq_emod_of_nonneg (by omega)]; omega
    have q9 := HRS.out.box.cellR.2 9 _ rfl
    have z9 := HRS.out.box.frozen 9
    have hcr : core6 s L = { core5 s L with S := [(⟨#[97]⟩, ⟨#[50]⟩)] } := by unfold core6; rw [if_pos hm, hd]; rfl
    have HCR := hide hcr
    clear hcr hd
    have ck5a := HRSA.out.kc 5 _ (KL_get L 8 5 (by omega))
    have hRSb := HRSA.out.keep ((Below.refl _ (wc.alloc (.cells #[.string ⟨#[]⟩, .string ⟨#[49]⟩, .string ⟨#[50]⟩] 9))).alloc (Nat.le_refl _) (.cells #[.string ⟨#[97]⟩, .string ⟨#[50]⟩] 169))
    have q9a := hRSb.box.cellR.2 9 _ rfl
    have z9a := hRSb.box.frozen 9
    clear hRSb
    have h9 := HRSA.out.laidS ⟨#[97]⟩ ⟨#[50]⟩
    rw [HSA.out] at h9
    have H9 := hide h9
    clear h9
    go_wp2
    go_meet
    case rel => exact ⟨_, by rw [HCR.out, ← HRC.out]; rfl, H9.out⟩
  ·go_wp2
   go_meet
   case rel => exact ⟨r, by rw [HRC.out]; unfold core6; rw [if_neg hm], HRS.out⟩
 case rest =>
  clear HRS HRC
  obtain ⟨r, hrc, hRSr⟩ := hcut
  have HRC := hide hrc
  have HRS := hide hRSr
  clear hrc hRSr
  (try simp only [Exit.inBlock, Exit.then])
  apply_assumption
  exact of_frame183 _ rfl (rule_tail10 L s w _ b6 g3 xc a c u5 _ rfl rfl rfl rfl rfl rfl rfl r HRC.out HRS.out HS5.out)

end Go.Proofs.YtmpciohmljpncaaGreatDoor

/- ref08.Rule from its 8-th statement on (printed by wip/gen_rule2.py). -/
namespace Go.Proofs.YtmpciohmljpncaaGreatDoor
open Go.ChangeShapes Go.WideShapes Go.ChangeAt Go.RowKit Go.Lib Go.Shelf
set_option maxRecDepth 100000 in
set_option maxHeartbeats 32000000 in
theorem rule_tail8 (L : List Int) (s : ByteArray) (w wc : World) (b6 g3 xc : Nat) (a : Option Addr) (c : Nat) (u5 : Value) (x : Nat → Value) (e0 : x 0 = .slice a L.length c) (e1 : x 1 = undef) (e2 : x 2 = .pointer (some ⟨w.heap.size, 0, none⟩)) (e3 : x 3 = .slice (some ⟨g3, 0, none⟩) 8 xc) (e4 : x 4 = .int .i64 8) (e5 : x 5 = u5) (e6 : x 6 = .pointer (some ⟨b6, 0, none⟩)) (r : RuleD) (hrc : r.core = core4 s L) (hRS : RS w wc w.heap.size b6 (.slice (some ⟨g3, 0, none⟩) 8 xc) (KL L 8) r) (hs5 : bl s = pathN (kN L 0 / 3)) :
  Code.wp Tryz.prog (ruleTail 8) (bodyPost Tryz.prog Tryz.f27 (RuleP L w)) ⟨frameOf 183 x, []⟩ wc := by
 conv => arg 2; whnf
 rw [frame183]
 simp only [e0, e1, e2, e3, e4, e5, e6]
 clear e0 e1 e2 e3 e4 e5 e6
 have HRC := hide hrc
 have HRS := hide hRS
 have HS5 := hide hs5
 clear hrc hRS hs5
 have ck := HRS.out.kc 5 _ (KL_get L 8 5 (by omega))
 have t0 : ((kN L 5 : Int)).tmod 3 = ((kN L 5 : Int)) % 3 := Int.tmod_eq_emod_of_nonneg (by omega)
 have t1 : IntKind.i64.wrap ((kN L 5 : Int) % 3) = (kN L 5 : Int) % 3 := IntWalk.i64_in _ (by have := kN_bd L 5; omega)
 go_upto_if 102 with (fail)
 clear ck t0 t1
 go_cut [] from 7 (fun w' => ∃ r', r'.core = core5 s L ∧ RS w w' w.heap.size b6 (.slice (some ⟨g3, 0, none⟩) 8 xc) (KL L 8) r')
 case first =>
  by_cases hm : (kN L 5 : Int) % 3 = 1
  ·have ck5 := HRS.out.kc 5 _ (KL_get L 8 5 (by omega))
   have u0_0 : ((kN L 5 : Int)).tdiv 3 = ((kN L 5 : Int)) / 3 := Int.tdiv_eq_ediv_of_nonneg (by omega)
   have u1_1 : IntKind.i64.wrap ((kN L 5 : Int) / 3) = (kN L 5 : Int) / 3 := IntWalk.i64_in _ (by have := kN_bd L 5; omega)
   have q8 := HRS.out.box.cellR.2 8 _ rfl
   have z8 := HRS.out.box.frozen 8
   have HPX := hide (pathof_k L 5)
   go_wp2_with fail
   refine (HPX.out _).mono ?_
   rintro e w9 ⟨rfl, E9⟩
   have hRS9 := RS.keep HRS.out E9
   have q8' := hRS9.box.cellR.2 8 _ rfl
   have z8' := hRS9.box.frozen 8
   go_wp2
   go_meet
   case rel => exact ⟨{ r with pre := pathA (kN L 5 / 3) }, by unfold core5; rw [if_pos hm, ← HRC.out]; rfl, hRS9.set 8 _ _ rfl hRS9.own⟩
  ·go_wp2
   go_meet
   case rel => exact ⟨r, by rw [HRC.out]; unfold core5; rw [if_neg hm], HRS.out⟩
 case rest =>
  clear HRS HRC
  obtain ⟨r, hrc, hRSr⟩ := hcut
  have HRC := hide hrc
  have HRS := hide hRSr
  clear hrc hRSr
  (try simp only [Exit.inBlock, Exit.then])
  apply_assumption
  exact of_frame183 _ rfl (rule_tail9 L s w _ b6 g3 xc a c u5 _ rfl rfl rfl rfl rfl rfl rfl r HRC.out HRS.out HS5.out)

end Go.Proofs.YtmpciohmljpncaaGreatDoor
/- Merged texts (GnT7, GnT6). -/
namespace Go.Proofs.YtmpciohmljpncaaGreatDoor
open Go.ChangeShapes Go.WideShapes Go.ChangeAt Go.RowKit Go.Lib Go.Shelf
set_option maxRecDepth 100000 in
set_option maxHeartbeats 32000000 in
theorem rule_tail7 (L : List Int) (s : ByteArray) (w wc : World) (b6 g3 xc : Nat) (a : Option Addr) (c : Nat) (u5 : Value) (x : Nat → Value) (e0 : x 0 = .slice a L.length c) (e1 : x 1 = undef) (e2 : x 2 = .pointer (some ⟨w.heap.size, 0, none⟩)) (e3 : x 3 = .slice (some ⟨g3, 0, none⟩) 8 xc) (e4 : x 4 = .int .i64 8) (e5 : x 5 = u5) (e6 : x 6 = .pointer (some ⟨b6, 0, none⟩)) (r : RuleD) (hrc : r.core = core3 s L) (hRS : RS w wc w.heap.size b6 (.slice (some ⟨g3, 0, none⟩) 8 xc) (KL L 8) r) (hs5 : bl s = pathN (kN L 0 / 3)) :
  Code.wp Tryz.prog (ruleTail 7) (bodyPost Tryz.prog Tryz.f27 (RuleP L w)) ⟨frameOf 183 x, []⟩ wc := by
 conv => arg 2; whnf
 rw [frame183]
 simp only [e0, e1, e2, e3, e4, e5, e6]
 clear e0 e1 e2 e3 e4 e5 e6
 have HRC := hide hrc
 have HRS := hide hRS
 have HS5 := hide hs5
 clear hrc hRS hs5
 have ck := HRS.out.kc 4 _ (KL_get L 8 4 (by omega))
 have t0 : ((kN L 4 : Int)).tmod 7 = ((kN L 4 : Int)) % 7 := Int.tmod_eq_emod_of_nonneg (by omega)
 have t1 : IntKind.i64.wrap ((kN L 4 : Int) % 7) = (kN L 4 : Int) % 7 := IntWalk.i64_in _ (by have := kN_bd L 4; omega)
 go_upto_if 80 with (fail)
 clear ck t0 t1
 go_cut [] from 7 (fun w' => ∃ r', r'.core = core4 s L ∧ RS w w' w.heap.size b6 (.slice (some ⟨g3, 0, none⟩) 8 xc) (KL L 8) r')
 case first =>
  by_cases hm : (kN L 4 : Int) % 7 = 2
  ·go_upto_region 16 with (fail)
   have HKC4 := hide (show ∀ vs w', vs.length ≤ 0 → (PhS wc b6 5 [.int .i64 ((kN L 4 : Int) / 7 % 4), .int .i64 ((kN L 4 : Int) / 28 % 3), .int .i64 ((kN L 4 : Int) / 84 % 9)]) vs w' → w'.cell? ⟨g3, 4, none⟩ = some (.int .i64 (kN L 4)) from fun vs w' hn h => by
    rcases vs with _ | ⟨u, vs⟩
    ·exact (RS.keep HRS.out h).kc 4 _ (KL_get L 8 4 (by omega))
    ·simp at hn)
   have hbc := hide (show ∀ w', Ext wc w' → (w'.cell? ⟨b6, 5, none⟩).isSome = true ∧ w'.frozen? ⟨b6, 5, none⟩ = false ∧ (w'.cell? ⟨b6, 6, none⟩).isSome = true ∧ w'.frozen? ⟨b6, 6, none⟩ = false ∧ (w'.cell? ⟨b6, 7, none⟩).isSome = true ∧ w'.frozen? ⟨b6, 7, none⟩ = false from fun w' h => ⟨by rw [(RS.keep HRS.out h).box.cellR.2 5 _ rfl]; rfl, (RS.keep HRS.out h).box.frozen 5, by rw [(RS.keep HRS.out h).box.cellR.2 6 _ rfl]; rfl, (RS.keep HRS.out h).box.frozen 6, by rw [(RS.keep HRS.out h).box.cellR.2 7 _ rfl]; rfl, (RS.keep HRS.out h).box.frozen 7⟩)
   refine wp_region_ph 183 [17] (PhS wc b6 5 [.int .i64 ((kN L 4 : Int) / 7 % 4), .int .i64 ((kN L 4 : Int) / 28 % 3), .int .i64 ((kN L 4 : Int) / 84 % 9)]) (fun t v => match t with | 0 => v = .slice a L.length c | 1 => v = undef | 2 => v = .pointer (some ⟨w.heap.size, 0, none⟩) | 3 => v = .slice (some ⟨g3, 0, none⟩) 8 xc | 4 => v = .int .i64 8 | 5 => v = u5 | 6 => v = .pointer (some ⟨b6, 0, none⟩) | 81 => v = .slice (some ⟨g3, 0, none⟩) 8 xc | 82 => v = .pointer (some ⟨g3, 4, none⟩) | 83 => v = .int .i64 (kN L 4 : Int) | 84 => v = .int .i64 ((kN L 4 : Int) / 7) | 85 => v = .int .i64 ((kN L 4 : Int) / 7 % 4) | 86 => v = .slice (some ⟨g3, 0, none⟩) 8 xc | 87 => v = .pointer (some ⟨g3, 4, none⟩) | 88 => v = .int .i64 (kN L 4 : Int) | 89 => v = .int .i64 ((kN L 4 : Int) / 28) | 90 => v = .int .i64 ((kN L 4 : Int) / 28 % 3) | 91 => v = .slice (some ⟨g3, 0, none⟩) 8 xc | 92 => v = .pointer (some ⟨g3, 4, none⟩) | 93 => v = .int .i64 (kN L 4 : Int) | 94 => v = .int .i64 ((kN L 4 : Int) / 84) | 95 => v = .int .i64 ((kN L 4 : Int) / 84 % 9) | 96 => v = .agg #[.int .i64 ((kN L 4 : Int) / 7 % 4), .int .i64 ((kN L 4 : Int) / 28 % 3), .int .i64 ((kN L 4 : Int) / 84 % 9)] | 97 => v = .pointer (some ⟨b6, 5, none⟩) | _ => True) (by kernel_rfl) rfl (by kernel_rfl) (by kernel_rfl) (by kernel_rfl) ?_ ?_ ?_ ?_ ?_
   ·exact (Below.refl _ _).drew
   ·intro t ht hno
    split <;> first | exact True.intro | exact rfl | exact absurd (hno.symm.trans (by kernel_rfl) : true = false) (by decide)
   ·intro i o ho hmi vs X w' hpk hph hX hI K hK
    have hin : i < 18 := (Array.getElem?_eq_some_iff.1 ho).1
    have hi : i = 0 ∨ i = 1 ∨ i = 2 ∨ i = 3 ∨ i = 4 ∨ i = 5 ∨ i = 6 ∨ i = 7 ∨ i = 8 ∨ i = 9 ∨ i = 10 ∨ i = 11 ∨ i = 12 ∨ i = 13 ∨ i = 14 ∨ i = 15 ∨ i = 16 ∨ i = 17 := by omega
    rcases hi with rfl | rfl | rfl | rfl | rfl | rfl | rfl | rfl | rfl | rfl | rfl | rfl | rfl | rfl | rfl | rfl | rfl | rfl
    ·obtain rfl := Option.some.inj ho
     have e3 : X 3 = _ := hI 3 (by kernel_rfl)
     unfold wpOp
     simp only [ho]
     rw [if_pos (by rfl)]
     left
     rw [frame183]
     go_simp
     refine metK (hK.out (.slice (some ⟨g3, 0, none⟩) 8 xc) (fun d hd => by cases hd; exact rfl)) ?_
     simp [frame183, Act.put, *]
    ·obtain rfl := Option.some.inj ho
     have e81 : X 81 = _ := hI 81 (by kernel_rfl)
     unfold wpOp
     simp only [ho]
     rw [if_pos (by rfl)]
     left
     rw [frame183]
     go_simp
     refine metK (hK.out (.pointer (some ⟨g3, 4, none⟩)) (fun d hd => by cases hd; exact rfl)) ?_
     simp [frame183, Act.put, *]
    ·obtain rfl := Option.some.inj ho
     have e82 : X 82 = _ := hI 82 (by kernel_rfl)
     have c0 := HKC4.out vs w' ((hpk 0 (by decide)).2 (by kernel_rfl)) hph
     unfold wpOp
     simp only [ho]
     rw [if_pos (by rfl)]
     left
     rw [frame183]
     go_simp
     refine metK (hK.out (.int .i64 (kN L 4 : Int)) (fun d hd => by cases hd; exact rfl)) ?_
     simp [frame183, Act.put, *]
    ·obtain rfl := Option.some.inj ho
     have e83 : X 83 = _ := hI 83 (by kernel_rfl)
     have t0 : ((kN L 4 : Int)).tdiv 7 = ((kN L 4 : Int)) / 7 := Int.tdiv_eq_ediv_of_nonneg (by omega)
     have t1 : IntKind.i64.wrap ((kN L 4 : Int) / 7) = (kN L 4 : Int) / 7 := IntWalk.i64_in _ (by have := kN_bd L 4; omega)
     unfold wpOp
     simp only [ho]
     rw [if_pos (by rfl)]
     left
     rw [frame183]
     go_simp
     refine metK (hK.out (.int .i64 ((kN L 4 : Int) / 7)) (fun d hd => by cases hd; exact rfl)) ?_
     simp [frame183, Act.put, *]
    ·obtain rfl := Option.some.inj ho
     have e84 : X 84 = _ := hI 84 (by kernel_rfl)
     have t0 : ((kN L 4 : Int) / 7).tmod 4 = ((kN L 4 : Int) / 7) % 4 := Int.tmod_eq_emod_of_nonneg (by omega)
     have t1 : IntKind.i64.wrap ((kN L 4 : Int) / 7 % 4) = (kN L 4 : Int) / 7 % 4 := IntWalk.i64_in _ (by have := kN_bd L 4; omega)
     unfold wpOp
     simp only [ho]
     rw [if_pos (by rfl)]
     left
     rw [frame183]
     go_simp
     refine metK (hK.out (.int .i64 ((kN L 4 : Int) / 7 % 4)) (fun d hd => by cases hd; exact rfl)) ?_
     simp [frame183, Act.put, *]
    ·obtain rfl := Option.some.inj ho
     have e3 : X 3 = _ := hI 3 (by kernel_rfl)
     unfold wpOp
     simp only [ho]
     rw [if_pos (by rfl)]
     left
     rw [frame183]
     go_simp
     refine metK (hK.out (.slice (some ⟨g3, 0, none⟩) 8 xc) (fun d hd => by cases hd; exact rfl)) ?_
     simp [frame183, Act.put, *]
    ·obtain rfl := Option.some.inj ho
     have e86 : X 86 = _ := hI 86 (by kernel_rfl)
     unfold wpOp
     simp only [ho]
     rw [if_pos (by rfl)]
     left
     rw [frame183]
     go_simp
     refine metK (hK.out (.pointer (some ⟨g3, 4, none⟩)) (fun d hd => by cases hd; exact rfl)) ?_
     simp [frame183, Act.put, *]
    ·obtain rfl := Option.some.inj ho
     have e87 : X 87 = _ := hI 87 (by kernel_rfl)
     have c0 := HKC4.out vs w' ((hpk 0 (by decide)).2 (by kernel_rfl)) hph
     unfold wpOp
     simp only [ho]
     rw [if_pos (by rfl)]
     left
     rw [frame183]
     go_simp
     refine metK (hK.out (.int .i64 (kN L 4 : Int)) (fun d hd => by cases hd; exact rfl)) ?_
     simp [frame183, Act.put, *]
    ·obtain rfl := Option.some.inj ho
     have e88 : X 88 = _ := hI 88 (by kernel_rfl)
     have t0 : ((kN L 4 : Int)).tdiv 28 = ((kN L 4 : Int)) / 28 := Int.tdiv_eq_ediv_of_nonneg (by omega)
     have t1 : IntKind.i64.wrap ((kN L 4 : Int) / 28) = (kN L 4 : Int) / 28 := IntWalk.i64_in _ (by have := kN_bd L 4; omega)
     unfold wpOp
     simp only [ho]
     rw [if_pos (by rfl)]
     left
     rw [frame183]
     go_simp
     refine metK (hK.out (.int .i64 ((kN L 4 : Int) / 28)) (fun d hd => by cases hd; exact rfl)) ?_
     simp [frame183, Act.put, *]
    ·obtain rfl := Option.some.inj ho
     have e89 : X 89 = _ := hI 89 (by kernel_rfl)
     have t0 : ((kN L 4 : Int) / 28).tmod 3 = ((kN L 4 : Int) / 28) % 3 := Int.tmod_eq_emod_of_nonneg (by omega)
     have t1 : IntKind.i64.wrap ((kN L 4 : Int) / 28 % 3) = (kN L 4 : Int) / 28 % 3 := IntWalk.i64_in _ (by have := kN_bd L 4; omega)
     unfold wpOp
     simp only [ho]
     rw [if_pos (by rfl)]
     left
     rw [frame183]
     go_simp
     refine metK (hK.out (.int .i64 ((kN L 4 : Int) / 28 % 3)) (fun d hd => by cases hd; exact rfl)) ?_
     simp [frame183, Act.put, *]
    ·obtain rfl := Option.some.inj ho
     have e3 : X 3 = _ := hI 3 (by kernel_rfl)
     unfold wpOp
     simp only [ho]
     rw [if_pos (by rfl)]
     left
     rw [frame183]
     go_simp
     refine metK (hK.out (.slice (some ⟨g3, 0, none⟩) 8 xc) (fun d hd => by cases hd; exact rfl)) ?_
     simp [frame183, Act.put, *]
    ·obtain rfl := Option.some.inj ho
     have e91 : X 91 = _ := hI 91 (by kernel_rfl)
     unfold wpOp
     simp only [ho]
     rw [if_pos (by rfl)]
     left
     rw [frame183]
     go_simp
     refine metK (hK.out (.pointer (some ⟨g3, 4, none⟩)) (fun d hd => by cases hd; exact rfl)) ?_
     simp [frame183, Act.put, *]
    ·obtain rfl := Option.some.inj ho
     have e92 : X 92 = _ := hI 92 (by kernel_rfl)
     have c0 := HKC4.out vs w' ((hpk 0 (by decide)).2 (by kernel_rfl)) hph
     unfold wpOp
     simp only [ho]
     rw [if_pos (by rfl)]
     left
     rw [frame183]
     go_simp
     refine metK (hK.out (.int .i64 (kN L 4 : Int)) (fun d hd => by cases hd; exact rfl)) ?_
     simp [frame183, Act.put, *]
    ·obtain rfl := Option.some.inj ho
     have e93 : X 93 = _ := hI 93 (by kernel_rfl)
     have t0 : ((kN L 4 : Int)).tdiv 84 = ((kN L 4 : Int)) / 84 := Int.tdiv_eq_ediv_of_nonneg (by omega)
     have t1 : IntKind.i64.wrap ((kN L 4 : Int) / 84) = (kN L 4 : Int) / 84 := IntWalk.i64_in _ (by have := kN_bd L 4; omega)
     unfold wpOp
     simp only [ho]
     rw [if_pos (by rfl)]
     left
     rw [frame183]
     go_simp
     refine metK (hK.out (.int .i64 ((kN L 4 : Int) / 84)) (fun d hd => by cases hd; exact rfl)) ?_
     simp [frame183, Act.put, *]
    ·obtain rfl := Option.some.inj ho
     have e94 : X 94 = _ := hI 94 (by kernel_rfl)
     have t0 : ((kN L 4 : Int) / 84).tmod 9 = ((kN L 4 : Int) / 84) % 9 := Int.tmod_eq_emod_of_nonneg (by omega)
     have t1 : IntKind.i64.wrap ((kN L 4 : Int) / 84 % 9) = (kN L 4 : Int) / 84 % 9 := IntWalk.i64_in _ (by have := kN_bd L 4; omega)
     unfold wpOp
     simp only [ho]
     rw [if_pos (by rfl)]
     left
     rw [frame183]
     go_simp
     refine metK (hK.out (.int .i64 ((kN L 4 : Int) / 84 % 9)) (fun d hd => by cases hd; exact rfl)) ?_
     simp [frame183, Act.put, *]
    ·obtain rfl := Option.some.inj ho
     have e85 : X 85 = _ := hI 85 (by kernel_rfl)
     have e90 : X 90 = _ := hI 90 (by kernel_rfl)
     have e95 : X 95 = _ := hI 95 (by kernel_rfl)
     unfold wpOp
     simp only [ho]
     rw [if_pos (by rfl)]
     left
     rw [frame183]
     go_simp
     refine metK (hK.out (.agg #[.int .i64 ((kN L 4 : Int) / 7 % 4), .int .i64 ((kN L 4 : Int) / 28 % 3), .int .i64 ((kN L 4 : Int) / 84 % 9)]) (fun d hd => by cases hd; exact rfl)) ?_
     simp [frame183, Act.put, *]
    ·obtain rfl := Option.some.inj ho
     have e6 : X 6 = _ := hI 6 (by kernel_rfl)
     unfold wpOp
     simp only [ho]
     rw [if_pos (by rfl)]
     left
     rw [frame183]
     go_simp
     refine metK (hK.out (.pointer (some ⟨b6, 5, none⟩)) (fun d hd => by cases hd; exact rfl)) ?_
     simp [frame183, Act.put, *]
    ·exact absurd hmi (by decide)
   ·intro i o ho hmi vs X w' hqi hql hph hX hI K hK
    rcases vs with _ | ⟨v0, _⟩
    ·obtain rfl : 17 = i := hqi
     obtain rfl := Option.some.inj ho
     have e96 : X 96 = _ := hI 96 (by kernel_rfl)
     have e97 : X 97 = _ := hI 97 (by kernel_rfl)
     have hRSx := RS.keep HRS.out hph
     have q5 := hRSx.box.cellR.2 5 _ rfl
     have z5 := hRSx.box.frozen 5
     have q6 := hRSx.box.cellR.2 6 _ rfl
     have z6 := hRSx.box.frozen 6
     have q7 := hRSx.box.cellR.2 7 _ rfl
     have z7 := hRSx.box.frozen 7
     unfold wpOp
     simp only [ho]
     rw [if_pos (by rfl)]
     left
     rw [frame183]
     go_simp
     refine metK (hK.out undef _ ⟨w', hph, rfl⟩) ?_
     simp [frame183, Act.put, *]
    ·simp at hql <;> omega
   ·intro vs X w' hlen hph hX hI
    have e0 : X 0 = _ := hI 0 (by omega) (by kernel_rfl)
    have e1 : X 1 = _ := hI 1 (by omega) (by kernel_rfl)
    have e2 : X 2 = _ := hI 2 (by omega) (by kernel_rfl)
    have e3 : X 3 = _ := hI 3 (by omega) (by kernel_rfl)
    have e4 : X 4 = _ := hI 4 (by omega) (by kernel_rfl)
    have e5 : X 5 = _ := hI 5 (by omega) (by kernel_rfl)
    have e6 : X 6 = _ := hI 6 (by omega) (by kernel_rfl)
    have e81 : X 81 = _ := hI 81 (by omega) (by kernel_rfl)
    have e82 : X 82 = _ := hI 82 (by omega) (by kernel_rfl)
    have e83 : X 83 = _ := hI 83 (by omega) (by kernel_rfl)
    have e84 : X 84 = _ := hI 84 (by omega) (by kernel_rfl)
    have e85 : X 85 = _ := hI 85 (by omega) (by kernel_rfl)
    have e86 : X 86 = _ := hI 86 (by omega) (by kernel_rfl)
    have e87 : X 87 = _ := hI 87 (by omega) (by kernel_rfl)
    have e88 : X 88 = _ := hI 88 (by omega) (by kernel_rfl)
    have e89 : X 89 = _ := hI 89 (by omega) (by kernel_rfl)
    have e90 : X 90 = _ := hI 90 (by omega) (by kernel_rfl)
    have e91 : X 91 = _ := hI 91 (by omega) (by kernel_rfl)
    have e92 : X 92 = _ := hI 92 (by omega) (by kernel_rfl)
    have e93 : X 93 = _ := hI 93 (by omega) (by kernel_rfl)
    have e94 : X 94 = _ := hI 94 (by omega) (by kernel_rfl)
    have e95 : X 95 = _ := hI 95 (by omega) (by kernel_rfl)
    have e96 : X 96 = _ := hI 96 (by omega) (by kernel_rfl)
    have e97 : X 97 = _ := hI 97 (by omega) (by kernel_rfl)
    rcases vs with _ | ⟨v0, _ | ⟨vz, vs⟩⟩
    ·simp at hlen
    rotate_left
    ·simp at hlen
    clear hX hI hlen
    rw [frame183]
    simp only [e0, e1, e2, e3, e4, e5, e6, e81, e82, e83, e84, e85, e86, e87, e88, e89, e90, e91, e92, e93, e94, e95, e96, e97]
    obtain ⟨w1, hE1, rfl⟩ := hph
    have hRS1 := RS.keep HRS.out hE1
    have hRS1_0 := hRS1.set 5 (.int .i64 ((kN L 4 : Int) / 7 % 4)) { r with ab := ((kN L 4 : Int) / 7 % 4) } rfl hRS1.own
    have hRS1_1 := hRS1_0.set 6 (.int .i64 ((kN L 4 : Int) / 28 % 3)) { { r with ab := ((kN L 4 : Int) / 7 % 4) } with de := ((kN L 4 : Int) / 28 % 3) } rfl hRS1_0.own
    have hRS1_2 := hRS1_1.set 7 (.int .i64 ((kN L 4 : Int) / 84 % 9)) { { { r with ab := ((kN L 4 : Int) / 7 % 4) } with de := ((kN L 4 : Int) / 28 % 3) } with ti := ((kN L 4 : Int) / 84 % 9) } rfl hRS1_1.own
    have hnx : ∃ r', r'.core = core4 s L ∧ RS w (w1.setCells b6 5 [.int .i64 ((kN L 4 : Int) / 7 % 4), .int .i64 ((kN L 4 : Int) / 28 % 3), .int .i64 ((kN L 4 : Int) / 84 % 9)]) w.heap.size b6 (.slice (some ⟨g3, 0, none⟩) 8 xc) (KL L 8) r' := ⟨_, by unfold core4; rw [if_pos hm, ← HRC.out]; rfl, hRS1_2⟩
    go_wp2
    go_meet
    case rel => exact hnx

  ·go_wp2
   go_meet
   case rel => exact ⟨r, by rw [HRC.out]; unfold core4; rw [if_neg hm], HRS.out⟩
 case rest =>
  clear HRS HRC
  obtain ⟨r, hrc, hRSr⟩ := hcut
  have HRC := hide hrc
  have HRS := hide hRSr
  clear hrc hRSr
  (try simp only [Exit.inBlock, Exit.then])
  apply_assumption
  exact of_frame183 _ rfl (rule_tail8 L s w _ b6 g3 xc a c u5 _ rfl rfl rfl rfl rfl rfl rfl r HRC.out HRS.out HS5.out)

end Go.Proofs.YtmpciohmljpncaaGreatDoor
namespace Go.Proofs.YtmpciohmljpncaaGreatDoor
open Go.ChangeShapes Go.WideShapes Go.ChangeAt Go.RowKit Go.Lib Go.Shelf
set_option maxRecDepth 100000 in
set_option maxHeartbeats 32000000 in
theorem rule_tail6 (L : List Int) (s : ByteArray) (w wc : World) (b6 g3 xc : Nat) (a : Option Addr) (c : Nat) (u5 : Value) (x : Nat → Value) (e0 : x 0 = .slice a L.length c) (e1 : x 1 = undef) (e2 : x 2 = .pointer (some ⟨w.heap.size, 0, none⟩)) (e3 : x 3 = .slice (some ⟨g3, 0, none⟩) 8 xc) (e4 : x 4 = .int .i64 8) (e5 : x 5 = u5) (e6 : x 6 = .pointer (some ⟨b6, 0, none⟩)) (r : RuleD) (hrc : r.core = core2 s L) (hRS : RS w wc w.heap.size b6 (.slice (some ⟨g3, 0, none⟩) 8 xc) (KL L 8) r) (hs5 : bl s = pathN (kN L 0 / 3)) :
  Code.wp Tryz.prog (ruleTail 6) (bodyPost Tryz.prog Tryz.f27 (RuleP L w)) ⟨frameOf 183 x, []⟩ wc := by
 conv => arg 2; whnf
 rw [frame183]
 simp only [e0, e1, e2, e3, e4, e5, e6]
 clear e0 e1 e2 e3 e4 e5 e6
 have HRC := hide hrc
 have HRS := hide hRS
 have HS5 := hide hs5
 clear hrc hRS hs5
 have ck := HRS.out.kc 4 _ (KL_get L 8 4 (by omega))
 have t0 : ((kN L 4 : Int)).tmod 5 = ((kN L 4 : Int)) % 5 := Int.tmod_eq_emod_of_nonneg (by omega)
 have t1 : IntKind.i64.wrap ((kN L 4 : Int) % 5) = (kN L 4 : Int) % 5 := IntWalk.i64_in _ (by have := kN_bd L 4; omega)
 go_upto_if 68 with (fail)
 clear ck t0 t1
 go_cut [] from 7 (fun w' => ∃ r', r'.core = core3 s L ∧ RS w w' w.heap.size b6 (.slice (some ⟨g3, 0, none⟩) 8 xc) (KL L 8) r')
 case first =>
  by_cases hm : (kN L 4 : Int) % 5 = 1
  ·have ck4 := HRS.out.kc 4 _ (KL_get L 8 4 (by omega))
   have u0_0 : ((kN L 4 : Int)).tdiv 5 = ((kN L 4 : Int)) / 5 := Int.tdiv_eq_ediv_of_nonneg (by omega)
   have u1_1 : IntKind.i64.wrap ((kN L 4 : Int) / 5) = (kN L 4 : Int) / 5 := IntWalk.i64_in _ (by have := kN_bd L 4; omega)
   have u0_2 : ((kN L 4 : Int) / 5).tmod 4 = ((kN L 4 : Int) / 5) % 4 := Int.tmod_eq_emod_of_nonneg (by omega)
   have u1_3 : IntKind.i64.wrap ((kN L 4 : Int) / 5 % 4) = (kN L 4 : Int) / 5 % 4 := IntWalk.i64_in _ (by have := kN_bd L 4; omega)
   have u1_4 : IntKind.i64.wrap (1 + (kN L 4 : Int) / 5 % 4) = 1 + (kN L 4 : Int) / 5 % 4 := IntWalk.i64_in _ (by have := kN_bd L 4; omega)
   have q4 := HRS.out.box.cellR.2 4 _ rfl
   have z4 := HRS.out.box.frozen 4
   go_wp2
   go_meet
   case rel => exact ⟨{ r with mi := 1 + (kN L 4 : Int) / 5 % 4 }, by unfold core3; rw [if_pos hm, ← HRC.out]; rfl, HRS.out.set 4 _ _ rfl HRS.out.own⟩
  ·go_wp2
   go_meet
   case rel => exact ⟨r, by rw [HRC.out]; unfold core3; rw [if_neg hm], HRS.out⟩
 case rest =>
  clear HRS HRC
  obtain ⟨r, hrc, hRSr⟩ := hcut
  have HRC := hide hrc
  have HRS := hide hRSr
  clear hrc hRSr
  (try simp only [Exit.inBlock, Exit.then])
  apply_assumption
  exact of_frame183 _ rfl (rule_tail7 L s w _ b6 g3 xc a c u5 _ rfl rfl rfl rfl rfl rfl rfl r HRC.out HRS.out HS5.out)

end Go.Proofs.YtmpciohmljpncaaGreatDoor
