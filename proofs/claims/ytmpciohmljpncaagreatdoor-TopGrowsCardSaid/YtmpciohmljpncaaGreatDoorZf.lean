/- Merged texts (GnT12, GnT11). -/
import Derived.Test.YtmpciohmljpncaaGreatDoorGnC
namespace Go.Proofs.YtmpciohmljpncaaGreatDoor
open Go.ChangeShapes Go.WideShapes Go.ChangeAt Go.RowKit Go.Lib Go.Shelf
set_option maxRecDepth 100000 in
set_option maxHeartbeats 32000000 in
theorem rule_tail12 (L : List Int) (s : ByteArray) (w W : World) (b6 g3 xc : Nat) (a : Option Addr) (c : Nat) (u5 : Value) (x : Nat → Value) (e0 : x 0 = .slice a L.length c) (e1 : x 1 = undef) (e2 : x 2 = .pointer (some ⟨w.heap.size, 0, none⟩)) (e3 : x 3 = .slice (some ⟨g3, 0, none⟩) 8 xc) (e4 : x 4 = .int .i64 8) (e5 : x 5 = u5) (e6 : x 6 = .pointer (some ⟨b6, 0, none⟩)) (r : RuleD) (hrc : r.core = core8 s L) (hRS : RS w W w.heap.size b6 (.slice (some ⟨g3, 0, none⟩) 8 xc) (KL L 8) r) (hs5 : bl s = pathN (kN L 0 / 3)) :
  Code.wp Tryz.prog (ruleTail 12) (bodyPost Tryz.prog Tryz.f27 (RuleP L w)) ⟨frameOf 183 x, []⟩ W := by
 conv => arg 2; whnf
 rw [frame183]
 simp only [e0, e1, e2, e3, e4, e5, e6]
 clear e0 e1 e2 e3 e4 e5 e6
 have HRC := hide hrc
 have HRS := hide hRS
 have HS5 := hide hs5
 clear hrc hRS hs5
 have ck := HRS.out.kc 7 _ (KL_get L 8 7 (by omega))
 have t0 : ((kN L 7 : Int)).tmod 3 = ((kN L 7 : Int)) % 3 := Int.tmod_eq_emod_of_nonneg (by omega)
 have t1 : IntKind.i64.wrap ((kN L 7 : Int) % 3) = (kN L 7 : Int) % 3 := IntWalk.i64_in _ (by have := kN_bd L 7; omega)
 go_upto_if 154 with (fail)
 clear ck t0 t1
 go_cut [] from 7 (fun w' => ∃ r', r'.core = core9 s L ∧ RS w w' w.heap.size b6 (.slice (some ⟨g3, 0, none⟩) 8 xc) (KL L 8) r')
 case first =>
  by_cases hm : (kN L 7 : Int) % 3 = 1
  ·have ck7 := HRS.out.kc 7 _ (KL_get L 8 7 (by omega))
   have u0_0 : ((kN L 7 : Int)).tdiv 3 = ((kN L 7 : Int)) / 3 := Int.tdiv_eq_ediv_of_nonneg (by omega)
   have u1_1 : IntKind.i64.wrap ((kN L 7 : Int) / 3) = (kN L 7 : Int) / 3 := IntWalk.i64_in _ (by have := kN_bd L 7; omega)
   have u0_2 : ((kN L 7 : Int) / 3).tmod 20 = ((kN L 7 : Int) / 3) % 20 := Int.tmod_eq_emod_of_nonneg (by omega)
   have u1_3 : IntKind.i64.wrap ((kN L 7 : Int) / 3 % 20) = (kN L 7 : Int) / 3 % 20 := IntWalk.i64_in _ (by have := kN_bd L 7; omega)
   have u1_4 : IntKind.i64.wrap (3 + (kN L 7 : Int) / 3 % 20) = 3 + (kN L 7 : Int) / 3 % 20 := IntWalk.i64_in _ (by have := kN_bd L 7; omega)
   have q14 := HRS.out.box.cellR.2 14 _ rfl
   have z14 := HRS.out.box.frozen 14
   go_wp2
   go_meet
   case rel => exact ⟨{ r with q3 := 3 + (kN L 7 : Int) / 3 % 20 }, by unfold core9; rw [if_pos hm, ← HRC.out]; rfl, HRS.out.set 14 _ _ rfl HRS.out.own⟩
  ·go_wp2
   go_meet
   case rel => exact ⟨r, by rw [HRC.out]; unfold core9; rw [if_neg hm], HRS.out⟩
 case rest =>
  clear HRS HRC
  obtain ⟨r, hrc, hRSr⟩ := hcut
  have HRC := hide hrc
  have HRS := hide hRSr
  clear hrc hRSr
  go_upto_region 26 with (fail)
  have HKC7 := hide (show ∀ vs w', vs.length ≤ 0 → (PhS wc b6 15 [.int .i64 ((kN L 7 : Int) / 60 % 4), .int .i64 (1 + (kN L 7 : Int) / 240 % 4), .int .i64 ((kN L 7 : Int) / 960 % 4)]) vs w' → w'.cell? ⟨g3, 7, none⟩ = some (.int .i64 (kN L 7)) from fun vs w' hn h => by
   rcases vs with _ | ⟨u, vs⟩
   ·exact (RS.keep HRS.out h).kc 7 _ (KL_get L 8 7 (by omega))
   ·simp at hn)
  have hbc := hide (show ∀ w', Ext wc w' → (w'.cell? ⟨b6, 15, none⟩).isSome = true ∧ w'.frozen? ⟨b6, 15, none⟩ = false ∧ (w'.cell? ⟨b6, 16, none⟩).isSome = true ∧ w'.frozen? ⟨b6, 16, none⟩ = false ∧ (w'.cell? ⟨b6, 17, none⟩).isSome = true ∧ w'.frozen? ⟨b6, 17, none⟩ = false from fun w' h => ⟨by rw [(RS.keep HRS.out h).box.cellR.2 15 _ rfl]; rfl, (RS.keep HRS.out h).box.frozen 15, by rw [(RS.keep HRS.out h).box.cellR.2 16 _ rfl]; rfl, (RS.keep HRS.out h).box.frozen 16, by rw [(RS.keep HRS.out h).box.cellR.2 17 _ rfl]; rfl, (RS.keep HRS.out h).box.frozen 17⟩)
  refine wp_region_ph 183 [19] (PhS wc b6 15 [.int .i64 ((kN L 7 : Int) / 60 % 4), .int .i64 (1 + (kN L 7 : Int) / 240 % 4), .int .i64 ((kN L 7 : Int) / 960 % 4)]) (fun t v => match t with | 0 => v = .slice a L.length c | 1 => v = undef | 2 => v = .pointer (some ⟨w.heap.size, 0, none⟩) | 3 => v = .slice (some ⟨g3, 0, none⟩) 8 xc | 4 => v = .int .i64 8 | 5 => v = u5 | 6 => v = .pointer (some ⟨b6, 0, none⟩) | 163 => v = .slice (some ⟨g3, 0, none⟩) 8 xc | 164 => v = .pointer (some ⟨g3, 7, none⟩) | 165 => v = .int .i64 (kN L 7 : Int) | 166 => v = .int .i64 ((kN L 7 : Int) / 60) | 167 => v = .int .i64 ((kN L 7 : Int) / 60 % 4) | 168 => v = .slice (some ⟨g3, 0, none⟩) 8 xc | 169 => v = .pointer (some ⟨g3, 7, none⟩) | 170 => v = .int .i64 (kN L 7 : Int) | 171 => v = .int .i64 ((kN L 7 : Int) / 240) | 172 => v = .int .i64 ((kN L 7 : Int) / 240 % 4) | 173 => v = .int .i64 (1 + (kN L 7 : Int) / 240 % 4) | 174 => v = .slice (some ⟨g3, 0, none⟩) 8 xc | 175 => v = .pointer (some ⟨g3, 7, none⟩) | 176 => v = .int .i64 (kN L 7 : Int) | 177 => v = .int .i64 ((kN L 7 : Int) / 960) | 178 => v = .int .i64 ((kN L 7 : Int) / 960 % 4) | 179 => v = .agg #[.int .i64 ((kN L 7 : Int) / 60 % 4), .int .i64 (1 + (kN L 7 : Int) / 240 % 4), .int .i64 ((kN L 7 : Int) / 960 % 4)] | 180 => v = .pointer (some ⟨b6, 11, none⟩) | 181 => v = .pointer (some ⟨b6, 15, none⟩) | _ => True) (by kernel_rfl) rfl (by kernel_rfl) (by kernel_rfl) (by kernel_rfl) ?_ ?_ ?_ ?_ ?_
  ·exact (Below.refl _ _).drew
  ·intro t ht hno
   split <;> first | exact True.intro | exact rfl | exact absurd (hno.symm.trans (by kernel_rfl) : true = false) (by decide)
  ·intro i o ho hmi vs X w' hpk hph hX hI K hK
   have hin : i < 20 := (Array.getElem?_eq_some_iff.1 ho).1
   have hi : i = 0 ∨ i = 1 ∨ i = 2 ∨ i = 3 ∨ i = 4 ∨ i = 5 ∨ i = 6 ∨ i = 7 ∨ i = 8 ∨ i = 9 ∨ i = 10 ∨ i = 11 ∨ i = 12 ∨ i = 13 ∨ i = 14 ∨ i = 15 ∨ i = 16 ∨ i = 17 ∨ i = 18 ∨ i = 19 := by omega
   rcases hi with rfl | rfl | rfl | rfl | rfl | rfl | rfl | rfl | rfl | rfl | rfl | rfl | rfl | rfl | rfl | rfl | rfl | rfl | rfl | rfl
   ·obtain rfl := Option.some.inj ho
    have e3 : X 3 = _ := hI 3 (by kernel_rfl)
    unfold wpOp
    simp only [ho]
    rw [if_pos (by rfl)]
    left
    rw [frame183]
    go_simp
    refine metK (hK.out (.slice (some ⟨g3, 0, none⟩) 8 xc) (fun d hd => by cases hd; exact rfl)) ?_
    simp [frame183, Act.put, *]
   ·obtain rfl := Option.some.inj ho
    have e163 : X 163 = _ := hI 163 (by kernel_rfl)
    unfold wpOp
    simp only [ho]
    rw [if_pos (by rfl)]
    left
    rw [frame183]
    go_simp
    refine metK (hK.out (.pointer (some ⟨g3, 7, none⟩)) (fun d hd => by cases hd; exact rfl)) ?_
    simp [frame183, Act.put, *]
   ·obtain rfl := Option.some.inj ho
    have e164 : X 164 = _ := hI 164 (by kernel_rfl)
    have c0 := HKC7.out vs w' ((hpk 0 (by decide)).2 (by kernel_rfl)) hph
    unfold wpOp
    simp only [ho]
    rw [if_pos (by rfl)]
    left
    rw [frame183]
    go_simp
    refine metK (hK.out (.int .i64 (kN L 7 : Int)) (fun d hd => by cases hd; exact rfl)) ?_
    simp [frame183, Act.put, *]
   ·obtain rfl := Option.some.inj ho
    have e165 : X 165 = _ := hI 165 (by kernel_rfl)
    have t0 : ((kN L 7 : Int)).tdiv 60 = ((kN L 7 : Int)) / 60 := Int.tdiv_eq_ediv_of_nonneg (by omega)
    have t1 : IntKind.i64.wrap ((kN L 7 : Int) / 60) = (kN L 7 : Int) / 60 := IntWalk.i64_in _ (by have := kN_bd L 7; omega)
    unfold wpOp
    simp only [ho]
    rw [if_pos (by rfl)]
    left
    rw [frame183]
    go_simp
    refine metK (hK.out (.int .i64 ((kN L 7 : Int) / 60)) (fun d hd => by cases hd; exact rfl)) ?_
    simp [frame183, Act.put, *]
   ·obtain rfl := Option.some.inj ho
    have e166 : X 166 = _ := hI 166 (by kernel_rfl)
    have t0 : ((kN L 7 : Int) / 60).tmod 4 = ((kN L 7 : Int) / 60) % 4 := Int.tmod_eq_emod_of_nonneg (by omega)
    have t1 : IntKind.i64.wrap ((kN L 7 : Int) / 60 % 4) = (kN L 7 : Int) / 60 % 4 := IntWalk.i64_in _ (by have := kN_bd L 7; omega)
    unfold wpOp
    simp only [ho]
    rw [if_pos (by rfl)]
    left
    rw [frame183]
    go_simp
    refine metK (hK.out (.int .i64 ((kN L 7 : Int) / 60 % 4)) (fun d hd => by cases hd; exact rfl)) ?_
    simp [frame183, Act.put, *]
   ·obtain rfl := Option.some.inj ho
    have e3 : X 3 = _ := hI 3 (by kernel_rfl)
    unfold wpOp
    simp only [ho]
    rw [if_pos (by rfl)]
    left
    rw [frame183]
    go_simp
    refine metK (hK.out (.slice (some ⟨g3, 0, none⟩) 8 xc) (fun d hd => by cases hd; exact rfl)) ?_
    simp [frame183, Act.put, *]
   ·obtain rfl := Option.some.inj ho
    have e168 : X 168 = _ := hI 168 (by kernel_rfl)
    unfold wpOp
    simp only [ho]
    rw [if_pos (by rfl)]
    left
    rw [frame183]
    go_simp
    refine metK (hK.out (.pointer (some ⟨g3, 7, none⟩)) (fun d hd => by cases hd; exact rfl)) ?_
    simp [frame183, Act.put, *]
   ·obtain rfl := Option.some.inj ho
    have e169 : X 169 = _ := hI 169 (by kernel_rfl)
    have c0 := HKC7.out vs w' ((hpk 0 (by decide)).2 (by kernel_rfl)) hph
    unfold wpOp
    simp only [ho]
    rw [if_pos (by rfl)]
    left
    rw [frame183]
    go_simp
    refine metK (hK.out (.int .i64 (kN L 7 : Int)) (fun d hd => by cases hd; exact rfl)) ?_
    simp [frame183, Act.put, *]
   ·obtain rfl := Option.some.inj ho
    have e170 : X 170 = _ := hI 170 (by kernel_rfl)
    have t0 : ((kN L 7 : Int)).tdiv 240 = ((kN L 7 : Int)) / 240 := Int.tdiv_eq_ediv_of_nonneg (by omega)
    have t1 : IntKind.i64.wrap ((kN L 7 : Int) / 240) = (kN L 7 : Int) / 240 := IntWalk.i64_in _ (by have := kN_bd L 7; omega)
    unfold wpOp
    simp only [ho]
    rw [if_pos (by rfl)]
    left
    rw [frame183]
    go_simp
    refine metK (hK.out (.int .i64 ((kN L 7 : Int) / 240)) (fun d hd => by cases hd; exact rfl)) ?_
    simp [frame183, Act.put, *]
   ·obtain rfl := Option.some.inj ho
    have e171 : X 171 = _ := hI 171 (by kernel_rfl)
    have t0 : ((kN L 7 : Int) / 240).tmod 4 = ((kN L 7 : Int) / 240) % 4 := Int.tmod_eq_emod_of_nonneg (by omega)
    have t1 : IntKind.i64.wrap ((kN L 7 : Int) / 240 % 4) = (kN L 7 : Int) / 240 % 4 := IntWalk.i64_in _ (by have := kN_bd L 7; omega)
    unfold wpOp
    simp only [ho]
    rw [if_pos (by rfl)]
    left
    rw [frame183]
    go_simp
    refine metK (hK.out (.int .i64 ((kN L 7 : Int) / 240 % 4)) (fun d hd => by cases hd; exact rfl)) ?_
    simp [frame183, Act.put, *]
   ·obtain rfl := Option.some.inj ho
    have e172 : X 172 = _ := hI 172 (by kernel_rfl)
    have t1 : IntKind.i64.wrap (1 + (kN L 7 : Int) / 240 % 4) = 1 + (kN L 7 : Int) / 240 % 4 := IntWalk.i64_in _ (by have := kN_bd L 7; omega)
    unfold wpOp
    simp only [ho]
    rw [if_pos (by rfl)]
    left
    rw [frame183]
    go_simp
    refine metK (hK.out (.int .i64 (1 + (kN L 7 : Int) / 240 % 4)) (fun d hd => by cases hd; exact rfl)) ?_
    simp [frame183, Act.put, *]
   ·obtain rfl := Option.some.inj ho
    have e3 : X 3 = _ := hI 3 (by kernel_rfl)
    unfold wpOp
    simp only [ho]
    rw [if_pos (by rfl)]
    left
    rw [frame183]
    go_simp
    refine metK (hK.out (.slice (some ⟨g3, 0, none⟩) 8 xc) (fun d hd => by cases hd; exact rfl)) ?_
    simp [frame183, Act.put, *]
   ·obtain rfl := Option.some.inj ho
    have e174 : X 174 = _ := hI 174 (by kernel_rfl)
    unfold wpOp
    simp only [ho]
    rw [if_pos (by rfl)]
    left
    rw [frame183]
    go_simp
    refine metK (hK.out (.pointer (some ⟨g3, 7, none⟩)) (fun d hd => by cases hd; exact rfl)) ?_
    simp [frame183, Act.put, *]
   ·obtain rfl := Option.some.inj ho
    have e175 : X 175 = _ := hI 175 (by kernel_rfl)
    have c0 := HKC7.out vs w' ((hpk 0 (by decide)).2 (by kernel_rfl)) hph
    unfold wpOp
    simp only [ho]
    rw [if_pos (by rfl)]
    left
    rw [frame183]
    go_simp
    refine metK (hK.out (.int .i64 (kN L 7 : Int)) (fun d hd => by cases hd; exact rfl)) ?_
    simp [frame183, Act.put, *]
   ·obtain rfl := Option.some.inj ho
    have e176 : X 176 = _ := hI 176 (by kernel_rfl)
    have t0 : ((kN L 7 : Int)).tdiv 960 = ((kN L 7 : Int)) / 960 := Int.tdiv_eq_ediv_of_nonneg (by omega)
    have t1 : IntKind.i64.wrap ((kN L 7 : Int) / 960) = (kN L 7 : Int) / 960 := IntWalk.i64_in _ (by have := kN_bd L 7; omega)
    unfold wpOp
    simp only [ho]
    rw [if_pos (by rfl)]
    left
    rw [frame183]
    go_simp
    refine metK (hK.out (.int .i64 ((kN L 7 : Int) / 960)) (fun d hd => by cases hd; exact rfl)) ?_
    simp [frame183, Act.put, *]
   ·obtain rfl := Option.some.inj ho
    have e177 : X 177 = _ := hI 177 (by kernel_rfl)
    have t0 : ((kN L 7 : Int) / 960).tmod 4 = ((kN L 7 : Int) / 960) % 4 := Int.tmod_eq_emod_of_nonneg (by omega)
    have t1 : IntKind.i64.wrap ((kN L 7 : Int) / 960 % 4) = (kN L 7 : Int) / 960 % 4 := IntWalk.i64_in _ (by have := kN_bd L 7; omega)
    unfold wpOp
    simp only [ho]
    rw [if_pos (by rfl)]
    left
    rw [frame183]
    go_simp
    refine metK (hK.out (.int .i64 ((kN L 7 : Int) / 960 % 4)) (fun d hd => by cases hd; exact rfl)) ?_
    simp [frame183, Act.put, *]
   ·obtain rfl := Option.some.inj ho
    have e167 : X 167 = _ := hI 167 (by kernel_rfl)
    have e173 : X 173 = _ := hI 173 (by kernel_rfl)
    have e178 : X 178 = _ := hI 178 (by kernel_rfl)
    unfold wpOp
    simp only [ho]
    rw [if_pos (by rfl)]
    left
    rw [frame183]
    go_simp
    refine metK (hK.out (.agg #[.int .i64 ((kN L 7 : Int) / 60 % 4), .int .i64 (1 + (kN L 7 : Int) / 240 % 4), .int .i64 ((kN L 7 : Int) / 960 % 4)]) (fun d hd => by cases hd; exact rfl)) ?_
    simp [frame183, Act.put, *]
   ·obtain rfl := Option.some.inj ho
    have e6 : X 6 = _ := hI 6 (by kernel_rfl)
    unfold wpOp
    simp only [ho]
    rw [if_pos (by rfl)]
    left
    rw [frame183]
    go_simp
    refine metK (hK.out (.pointer (some ⟨b6, 11, none⟩)) (fun d hd => by cases hd; exact rfl)) ?_
    simp [frame183, Act.put, *]
   ·obtain rfl := Option.some.inj ho
    have e180 : X 180 = _ := hI 180 (by kernel_rfl)
    unfold wpOp
    simp only [ho]
    rw [if_pos (by rfl)]
    left
    rw [frame183]
    go_simp
    refine metK (hK.out (.pointer (some ⟨b6, 15, none⟩)) (fun d hd => by cases hd; exact rfl)) ?_
    simp [frame183, Act.put, *]
   ·exact absurd hmi (by decide)
  ·intro i o ho hmi vs X w' hqi hql hph hX hI K hK
   rcases vs with _ | ⟨v0, _⟩
   ·obtain rfl : 19 = i := hqi
    obtain rfl := Option.some.inj ho
    have e179 : X 179 = _ := hI 179 (by kernel_rfl)
    have e181 : X 181 = _ := hI 181 (by kernel_rfl)
    have hRSx := RS.keep HRS.out hph
    have q15 := hRSx.box.cellR.2 15 _ rfl
    have z15 := hRSx.box.frozen 15
    have q16 := hRSx.box.cellR.2 16 _ rfl
    have z16 := hRSx.box.frozen 16
    have q17 := hRSx.box.cellR.2 17 _ rfl
    have z17 := hRSx.box.frozen 17
    unfold wpOp
    simp only [ho]
    rw [if_pos (by rfl)]
    left
    rw [frame183]
    go_simp
    refine metK (hK.out undef _ ⟨w', hph, rfl⟩) ?_
    simp [frame183, Act.put, *]
   ·simp at hql <;> omega
  ·intro vs X w' hlen hph hX hI
   have e0 : X 0 = _ := hI 0 (by omega) (by kernel_rfl)
   have e1 : X 1 = _ := hI 1 (by omega) (by kernel_rfl)
   have e2 : X 2 = _ := hI 2 (by omega) (by kernel_rfl)
   have e3 : X 3 = _ := hI 3 (by omega) (by kernel_rfl)
   have e4 : X 4 = _ := hI 4 (by omega) (by kernel_rfl)
   have e5 : X 5 = _ := hI 5 (by omega) (by kernel_rfl)
   have e6 : X 6 = _ := hI 6 (by omega) (by kernel_rfl)
   have e163 : X 163 = _ := hI 163 (by omega) (by kernel_rfl)
   have e164 : X 164 = _ := hI 164 (by omega) (by kernel_rfl)
   have e165 : X 165 = _ := hI 165 (by omega) (by kernel_rfl)
   have e166 : X 166 = _ := hI 166 (by omega) (by kernel_rfl)
   have e167 : X 167 = _ := hI 167 (by omega) (by kernel_rfl)
   have e168 : X 168 = _ := hI 168 (by omega) (by kernel_rfl)
   have e169 : X 169 = _ := hI 169 (by omega) (by kernel_rfl)
   have e170 : X 170 = _ := hI 170 (by omega) (by kernel_rfl)
   have e171 : X 171 = _ := hI 171 (by omega) (by kernel_rfl)
   have e172 : X 172 = _ := hI 172 (by omega) (by kernel_rfl)
   have e173 : X 173 = _ := hI 173 (by omega) (by kernel_rfl)
   have e174 : X 174 = _ := hI 174 (by omega) (by kernel_rfl)
   have e175 : X 175 = _ := hI 175 (by omega) (by kernel_rfl)
   have e176 : X 176 = _ := hI 176 (by omega) (by kernel_rfl)
   have e177 : X 177 = _ := hI 177 (by omega) (by kernel_rfl)
   have e178 : X 178 = _ := hI 178 (by omega) (by kernel_rfl)
   have e179 : X 179 = _ := hI 179 (by omega) (by kernel_rfl)
   have e180 : X 180 = _ := hI 180 (by omega) (by kernel_rfl)
   have e181 : X 181 = _ := hI 181 (by omega) (by kernel_rfl)
   rcases vs with _ | ⟨v0, _ | ⟨vz, vs⟩⟩
   ·simp at hlen
   rotate_left
   ·simp at hlen
   clear hX hI hlen
   rw [frame183]
   simp only [e0, e1, e2, e3, e4, e5, e6, e163, e164, e165, e166, e167, e168, e169, e170, e171, e172, e173, e174, e175, e176, e177, e178, e179, e180, e181]
   obtain ⟨w1, hE1, rfl⟩ := hph
   have hRS1 := RS.keep HRS.out hE1
   have hRS1_0 := hRS1.set 15 (.int .i64 ((kN L 7 : Int) / 60 % 4)) { r with q4 := ((kN L 7 : Int) / 60 % 4) } rfl hRS1.own
   have hRS1_1 := hRS1_0.set 16 (.int .i64 (1 + (kN L 7 : Int) / 240 % 4)) { { r with q4 := ((kN L 7 : Int) / 60 % 4) } with q5 := (1 + (kN L 7 : Int) / 240 % 4) } rfl hRS1_0.own
   have hRS1_2 := hRS1_1.set 17 (.int .i64 ((kN L 7 : Int) / 960 % 4)) { { { r with q4 := ((kN L 7 : Int) / 60 % 4) } with q5 := (1 + (kN L 7 : Int) / 240 % 4) } with q6 := ((kN L 7 : Int) / 960 % 4) } rfl hRS1_1.own
   have hnx : ∃ r', r'.core = core10 s L ∧ RS w (w1.setCells b6 15 [.int .i64 ((kN L 7 : Int) / 60 % 4), .int .i64 (1 + (kN L 7 : Int) / 240 % 4), .int .i64 ((kN L 7 : Int) / 960 % 4)]) w.heap.size b6 (.slice (some ⟨g3, 0, none⟩) 8 xc) (KL L 8) r' := ⟨_, by unfold core10; rw [← HRC.out]; rfl, hRS1_2⟩
   generalize w1.setCells b6 15 [.int .i64 ((kN L 7 : Int) / 60 % 4), .int .i64 (1 + (kN L 7 : Int) / 240 % 4), .int .i64 ((kN L 7 : Int) / 960 % 4)] = W9 at hnx ⊢
   clear hRS1 hRS1_0 hRS1_1 hRS1_2 hE1 HKC7 hbc HRC HRS
   clear r
   obtain ⟨r, hrc, hRSr⟩ := hnx
   have HRC := hide hrc
   have HRS := hide hRSr
   clear hrc hRSr
   obtain ⟨dd, hd1, hd2⟩ := Tryz.ruleDesc
   have hRSf := HRS.out
   obtain ⟨cs2, hr1, hr2⟩ := hRSf.bx2
   go_upto_region 27 with (fail)
   refine wp_region_lit ?_
   refine wpList_load_mid rfl 57 (.tmp 6) rfl b6 0 rfl (encR r) dd (fun j v hv => by rw [Nat.zero_add]; exact hRSf.box.cellR.2 j v hv) hd1 hd2 Tryz.ruleSize ?_
   have hth : W9.there w.heap.size 0 (encR r).toArray.size := fun j hj => by
    have hj' : j < 19 := hj
    rw [Nat.zero_add]
    refine ⟨?_, by simp [World.frozen?, hr1]⟩
    simp only [World.cell?, hr1]
    simp [hr2, hj']
   refine wpList_store_mid rfl 57 (.tmp 2) (.tmp 182) rfl w.heap.size 0 (encR r).toArray rfl rfl hth Tryz.ruleSize (all_oneCell_toArray (encR_one r hRSf.own)) ?_
   refine wpList_nil ?_
   have hrs := World.rangeAt_setCells_same W9 w.heap.size 0 (encR r) hth
   have hk5 := keeps_setCells w.heap.size (encR r) 0 W9
   show Exit.then _ _ _ _ (W9.setCells w.heap.size 0 (encR r))
   generalize W9.setCells w.heap.size 0 (encR r) = W10 at hrs hk5 ⊢
   have hEF : Ext w W10 := Keeps.ext hRSf.ext hk5 (fun g hg => by omega)
   have hOF := hRSf.own.keeps hk5 (fun g hg e => by subst e; rcases hRSf.own.type hg hr1 with h | h | h <;> exact absurd h (by decide))
   have HEF := hide hEF
   have HOF := hide hOF
   have HRG := hide hrs
   clear hrs hk5 hEF hOF hRSf hr1 hr2 hth HRS
   simp only [Act.put]
   go_wp2_with (fail)
   (try simp only [Exit.inBlock, Exit.then])
   refine bodyPost_ret (results_cell_mid rfl _ _ w.heap.size 0 (encR r) dd rfl HRG.out hd1 hd2 Tryz.ruleSize) rfl ?_
   exact ⟨r, rfl, by rw [HRC.out, bl_pathA s _ HS5.out]; rfl, HOF.out, HEF.out⟩


end Go.Proofs.YtmpciohmljpncaaGreatDoor
namespace Go.Proofs.YtmpciohmljpncaaGreatDoor
open Go.ChangeShapes Go.WideShapes Go.ChangeAt Go.RowKit Go.Lib Go.Shelf
set_option maxRecDepth 100000 in
set_option maxHeartbeats 32000000 in
theorem rule_tail11 (L : List Int) (s : ByteArray) (w wc : World) (b6 g3 xc : Nat) (a : Option Addr) (c : Nat) (u5 : Value) (x : Nat → Value) (e0 : x 0 = .slice a L.length c) (e1 : x 1 = undef) (e2 : x 2 = .pointer (some ⟨w.heap.size, 0, none⟩)) (e3 : x 3 = .slice (some ⟨g3, 0, none⟩) 8 xc) (e4 : x 4 = .int .i64 8) (e5 : x 5 = u5) (e6 : x 6 = .pointer (some ⟨b6, 0, none⟩)) (r : RuleD) (hrc : r.core = core7 s L) (hRS : RS w wc w.heap.size b6 (.slice (some ⟨g3, 0, none⟩) 8 xc) (KL L 8) r) (hs5 : bl s = pathN (kN L 0 / 3)) :
  Code.wp Tryz.prog (ruleTail 11) (bodyPost Tryz.prog Tryz.f27 (RuleP L w)) ⟨frameOf 183 x, []⟩ wc := by
 conv => arg 2; whnf
 rw [frame183]
 simp only [e0, e1, e2, e3, e4, e5, e6]
 clear e0 e1 e2 e3 e4 e5 e6
 have HRC := hide hrc
 have HRS := hide hRS
 have HS5 := hide hs5
 clear hrc hRS hs5
 go_upto_region 23 with (fail)
 have HKC6 := hide (show ∀ vs w', vs.length ≤ 0 → (PhS wc b6 11 [.int .i64 (5 + (kN L 6 : Int) % 60), .int .i64 (1 + (kN L 6 : Int) / 60 % 4), .int .i64 ((kN L 6 : Int) / 240 % 5), .int .i64 0, .int .i64 0, .int .i64 0, .int .i64 0]) vs w' → w'.cell? ⟨g3, 6, none⟩ = some (.int .i64 (kN L 6)) from fun vs w' hn h => by
  rcases vs with _ | ⟨u, vs⟩
  ·exact (RS.keep HRS.out h).kc 6 _ (KL_get L 8 6 (by omega))
  ·simp at hn)
 have hbc := hide (show ∀ w', Ext wc w' → (w'.cell? ⟨b6, 11, none⟩).isSome = true ∧ w'.frozen? ⟨b6, 11, none⟩ = false ∧ (w'.cell? ⟨b6, 12, none⟩).isSome = true ∧ w'.frozen? ⟨b6, 12, none⟩ = false ∧ (w'.cell? ⟨b6, 13, none⟩).isSome = true ∧ w'.frozen? ⟨b6, 13, none⟩ = false ∧ (w'.cell? ⟨b6, 14, none⟩).isSome = true ∧ w'.frozen? ⟨b6, 14, none⟩ = false ∧ (w'.cell? ⟨b6, 15, none⟩).isSome = true ∧ w'.frozen? ⟨b6, 15, none⟩ = false ∧ (w'.cell? ⟨b6, 16, none⟩).isSome = true ∧ w'.frozen? ⟨b6, 16, none⟩ = false ∧ (w'.cell? ⟨b6, 17, none⟩).isSome = true ∧ w'.frozen? ⟨b6, 17, none⟩ = false from fun w' h => ⟨by rw [(RS.keep HRS.out h).box.cellR.2 11 _ rfl]; rfl, (RS.keep HRS.out h).box.frozen 11, by rw [(RS.keep HRS.out h).box.cellR.2 12 _ rfl]; rfl, (RS.keep HRS.out h).box.frozen 12, by rw [(RS.keep HRS.out h).box.cellR.2 13 _ rfl]; rfl, (RS.keep HRS.out h).box.frozen 13, by rw [(RS.keep HRS.out h).box.cellR.2 14 _ rfl]; rfl, (RS.keep HRS.out h).box.frozen 14, by rw [(RS.keep HRS.out h).box.cellR.2 15 _ rfl]; rfl, (RS.keep HRS.out h).box.frozen 15, by rw [(RS.keep HRS.out h).box.cellR.2 16 _ rfl]; rfl, (RS.keep HRS.out h).box.frozen 16, by rw [(RS.keep HRS.out h).box.cellR.2 17 _ rfl]; rfl, (RS.keep HRS.out h).box.frozen 17⟩)
 refine wp_region_ph 183 [18] (PhS wc b6 11 [.int .i64 (5 + (kN L 6 : Int) % 60), .int .i64 (1 + (kN L 6 : Int) / 60 % 4), .int .i64 ((kN L 6 : Int) / 240 % 5), .int .i64 0, .int .i64 0, .int .i64 0, .int .i64 0]) (fun t v => match t with | 0 => v = .slice a L.length c | 1 => v = undef | 2 => v = .pointer (some ⟨w.heap.size, 0, none⟩) | 3 => v = .slice (some ⟨g3, 0, none⟩) 8 xc | 4 => v = .int .i64 8 | 5 => v = u5 | 6 => v = .pointer (some ⟨b6, 0, none⟩) | 132 => v = .slice (some ⟨g3, 0, none⟩) 8 xc | 133 => v = .pointer (some ⟨g3, 6, none⟩) | 134 => v = .int .i64 (kN L 6 : Int) | 135 => v = .int .i64 ((kN L 6 : Int) % 60) | 136 => v = .int .i64 (5 + (kN L 6 : Int) % 60) | 137 => v = .slice (some ⟨g3, 0, none⟩) 8 xc | 138 => v = .pointer (some ⟨g3, 6, none⟩) | 139 => v = .int .i64 (kN L 6 : Int) | 140 => v = .int .i64 ((kN L 6 : Int) / 60) | 141 => v = .int .i64 ((kN L 6 : Int) / 60 % 4) | 142 => v = .int .i64 (1 + (kN L 6 : Int) / 60 % 4) | 143 => v = .slice (some ⟨g3, 0, none⟩) 8 xc | 144 => v = .pointer (some ⟨g3, 6, none⟩) | 145 => v = .int .i64 (kN L 6 : Int) | 146 => v = .int .i64 ((kN L 6 : Int) / 240) | 147 => v = .int .i64 ((kN L 6 : Int) / 240 % 5) | 148 => v = .agg #[.int .i64 (5 + (kN L 6 : Int) % 60), .int .i64 (1 + (kN L 6 : Int) / 60 % 4), .int .i64 ((kN L 6 : Int) / 240 % 5), .int .i64 0, .int .i64 0, .int .i64 0, .int .i64 0] | 149 => v = .pointer (some ⟨b6, 11, none⟩) | _ => True) (by kernel_rfl) rfl (by kernel_rfl) (by kernel_rfl) (by kernel_rfl) ?_ ?_ ?_ ?_ ?_
 ·exact (Below.refl _ _).drew
 ·intro t ht hno
  split <;> first | exact True.intro | exact rfl | exact absurd (hno.symm.trans (by kernel_rfl) : true = false) (by decide)
 ·intro i o ho hmi vs X w' hpk hph hX hI K hK
  have hin : i < 19 := (Array.getElem?_eq_some_iff.1 ho).1
  have hi : i = 0 ∨ i = 1 ∨ i = 2 ∨ i = 3 ∨ i = 4 ∨ i = 5 ∨ i = 6 ∨ i = 7 ∨ i = 8 ∨ i = 9 ∨ i = 10 ∨ i = 11 ∨ i = 12 ∨ i = 13 ∨ i = 14 ∨ i = 15 ∨ i = 16 ∨ i = 17 ∨ i = 18 := by omega
  rcases hi with rfl | rfl | rfl | rfl | rfl | rfl | rfl | rfl | rfl | rfl | rfl | rfl | rfl | rfl | rfl | rfl | rfl | rfl | rfl
  ·obtain rfl := Option.some.inj ho
   have e3 : X 3 = _ := hI 3 (by kernel_rfl)
   unfold wpOp
   simp only [ho]
   rw [if_pos (by rfl)]
   left
   rw [frame183]
   go_simp
   refine metK (hK.out (.slice (some ⟨g3, 0, none⟩) 8 xc) (fun d hd => by cases hd; exact rfl)) ?_
   simp [frame183, Act.put, *]
  ·obtain rfl := Option.some.inj ho
   have e132 : X 132 = _ := hI 132 (by kernel_rfl)
   unfold wpOp
   simp only [ho]
   rw [if_pos (by rfl)]
   left
   rw [frame183]
   go_simp
   refine metK (hK.out (.pointer (some ⟨g3, 6, none⟩)) (fun d hd => by cases hd; exact rfl)) ?_
   simp [frame183, Act.put, *]
  ·obtain rfl := Option.some.inj ho
   have e133 : X 133 = _ := hI 133 (by kernel_rfl)
   have c0 := HKC6.out vs w' ((hpk 0 (by decide)).2 (by kernel_rfl)) hph
   unfold wpOp
   simp only [ho]
   rw [if_pos (by rfl)]
   left
   rw [frame183]
   go_simp
   refine metK (hK.out (.int .i64 (kN L 6 : Int)) (fun d hd => by cases hd; exact rfl)) ?_
   simp [frame183, Act.put, *]
  ·obtain rfl := Option.some.inj ho
   have e134 : X 134 = _ := hI 134 (by kernel_rfl)
   have t0 : ((kN L 6 : Int)).tmod 60 = ((kN L 6 : Int)) % 60 := Int.tmod_eq_emod_of_nonneg (by omega)
   have t1 : IntKind.i64.wrap ((kN L 6 : Int) % 60) = (kN L 6 : Int) % 60 := IntWalk.i64_in _ (by have := kN_bd L 6; omega)
   unfold wpOp
   simp only [ho]
   rw [if_pos (by rfl)]
   left
   rw [frame183]
   go_simp
   refine metK (hK.out (.int .i64 ((kN L 6 : Int) % 60)) (fun d hd => by cases hd; exact rfl)) ?_
   simp [frame183, Act.put, *]
  ·obtain rfl := Option.some.inj ho
   have e135 : X 135 = _ := hI 135 (by kernel_rfl)
   have t1 : IntKind.i64.wrap (5 + (kN L 6 : Int) % 60) = 5 + (kN L 6 : Int) % 60 := IntWalk.i64_in _ (by have := kN_bd L 6; omega)
   unfold wpOp
   simp only [ho]
   rw [if_pos (by rfl)]
   left
   rw [frame183]
   go_simp
   refine metK (hK.out (.int .i64 (5 + (kN L 6 : Int) % 60)) (fun d hd => by cases hd; exact rfl)) ?_
   simp [frame183, Act.put, *]
  ·obtain rfl := Option.some.inj ho
   have e3 : X 3 = _ := hI 3 (by kernel_rfl)
   unfold wpOp
   simp only [ho]
   rw [if_pos (by rfl)]
   left
   rw [frame183]
   go_simp
   refine metK (hK.out (.slice (some ⟨g3, 0, none⟩) 8 xc) (fun d hd => by cases hd; exact rfl)) ?_
   simp [frame183, Act.put, *]
  ·obtain rfl := Option.some.inj ho
   have e137 : X 137 = _ := hI 137 (by kernel_rfl)
   unfold wpOp
   simp only [ho]
   rw [if_pos (by rfl)]
   left
   rw [frame183]
   go_simp
   refine metK (hK.out (.pointer (some ⟨g3, 6, none⟩)) (fun d hd => by cases hd; exact rfl)) ?_
   simp [frame183, Act.put, *]
  ·obtain rfl := Option.some.inj ho
   have e138 : X 138 = _ := hI 138 (by kernel_rfl)
   have c0 := HKC6.out vs w' ((hpk 0 (by decide)).2 (by kernel_rfl)) hph
   unfold wpOp
   simp only [ho]
   rw [if_pos (by rfl)]
   left
   rw [frame183]
   go_simp
   refine metK (hK.out (.int .i64 (kN L 6 : Int)) (fun d hd => by cases hd; exact rfl)) ?_
   simp [frame183, Act.put, *]
  ·obtain rfl := Option.some.inj ho
   have e139 : X 139 = _ := hI 139 (by kernel_rfl)
   have t0 : ((kN L 6 : Int)).tdiv 60 = ((kN L 6 : Int)) / 60 := Int.tdiv_eq_ediv_of_nonneg (by omega)
   have t1 : IntKind.i64.wrap ((kN L 6 : Int) / 60) = (kN L 6 : Int) / 60 := IntWalk.i64_in _ (by have := kN_bd L 6; omega)
   unfold wpOp
   simp only [ho]
   rw [if_pos (by rfl)]
   left
   rw [frame183]
   go_simp
   refine metK (hK.out (.int .i64 ((kN L 6 : Int) / 60)) (fun d hd => by cases hd; exact rfl)) ?_
   simp [frame183, Act.put, *]
  ·obtain rfl := Option.some.inj ho
   have e140 : X 140 = _ := hI 140 (by kernel_rfl)
   have t0 : ((kN L 6 : Int) / 60).tmod 4 = ((kN L 6 : Int) / 60) % 4 := Int.tmod_eq_emod_of_nonneg (by omega)
   have t1 : IntKind.i64.wrap ((kN L 6 : Int) / 60 % 4) = (kN L 6 : Int) / 60 % 4 := IntWalk.i64_in _ (by have := kN_bd L 6; omega)
   unfold wpOp
   simp only [ho]
   rw [if_pos (by rfl)]
   left
   rw [frame183]
   go_simp
   refine metK (hK.out (.int .i64 ((kN L 6 : Int) / 60 % 4)) (fun d hd => by cases hd; exact rfl)) ?_
   simp [frame183, Act.put, *]
  ·obtain rfl := Option.some.inj ho
   have e141 : X 141 = _ := hI 141 (by kernel_rfl)
   have t1 : IntKind.i64.wrap (1 + (kN L 6 : Int) / 60 % 4) = 1 + (kN L 6 : Int) / 60 % 4 := IntWalk.i64_in _ (by have := kN_bd L 6; omega)
   unfold wpOp
   simp only [ho]
   rw [if_pos (by rfl)]
   left
   rw [frame183]
   go_simp
   refine metK (hK.out (.int .i64 (1 + (kN L 6 : Int) / 60 % 4)) (fun d hd => by cases hd; exact rfl)) ?_
   simp [frame183, Act.put, *]
  ·obtain rfl := Option.some.inj ho
   have e3 : X 3 = _ := hI 3 (by kernel_rfl)
   unfold wpOp
   simp only [ho]
   rw [if_pos (by rfl)]
   left
   rw [frame183]
   go_simp
   refine metK (hK.out (.slice (some ⟨g3, 0, none⟩) 8 xc) (fun d hd => by cases hd; exact rfl)) ?_
   simp [frame183, Act.put, *]
  ·obtain rfl := Option.some.inj ho
   have e143 : X 143 = _ := hI 143 (by kernel_rfl)
   unfold wpOp
   simp only [ho]
   rw [if_pos (by rfl)]
   left
   rw [frame183]
   go_simp
   refine metK (hK.out (.pointer (some ⟨g3, 6, none⟩)) (fun d hd => by cases hd; exact rfl)) ?_
   simp [frame183, Act.put, *]
  ·obtain rfl := Option.some.inj ho
   have e144 : X 144 = _ := hI 144 (by kernel_rfl)
   have c0 := HKC6.out vs w' ((hpk 0 (by decide)).2 (by kernel_rfl)) hph
   unfold wpOp
   simp only [ho]
   rw [if_pos (by rfl)]
   left
   rw [frame183]
   go_simp
   refine metK (hK.out (.int .i64 (kN L 6 : Int)) (fun d hd => by cases hd; exact rfl)) ?_
   simp [frame183, Act.put, *]
  ·obtain rfl := Option.some.inj ho
   have e145 : X 145 = _ := hI 145 (by kernel_rfl)
   have t0 : ((kN L 6 : Int)).tdiv 240 = ((kN L 6 : Int)) / 240 := Int.tdiv_eq_ediv_of_nonneg (by omega)
   have t1 : IntKind.i64.wrap ((kN L 6 : Int) / 240) = (kN L 6 : Int) / 240 := IntWalk.i64_in _ (by have := kN_bd L 6; omega)
   unfold wpOp
   simp only [ho]
   rw [if_pos (by rfl)]
   left
   rw [frame183]
   go_simp
   refine metK (hK.out (.int .i64 ((kN L 6 : Int) / 240)) (fun d hd => by cases hd; exact rfl)) ?_
   simp [frame183, Act.put, *]
  ·obtain rfl := Option.some.inj ho
   have e146 : X 146 = _ := hI 146 (by kernel_rfl)
   have t0 : ((kN L 6 : Int) / 240).tmod 5 = ((kN L 6 : Int) / 240) % 5 := Int.tmod_eq_emod_of_nonneg (by omega)
   have t1 : IntKind.i64.wrap ((kN L 6 : Int) / 240 % 5) = (kN L 6 : Int) / 240 % 5 := IntWalk.i64_in _ (by have := kN_bd L 6; omega)
   unfold wpOp
   simp only [ho]
   rw [if_pos (by rfl)]
   left
   rw [frame183]
   go_simp
   refine metK (hK.out (.int .i64 ((kN L 6 : Int) / 240 % 5)) (fun d hd => by cases hd; exact rfl)) ?_
   simp [frame183, Act.put, *]
  ·obtain rfl := Option.some.inj ho
   have e136 : X 136 = _ := hI 136 (by kernel_rfl)
   have e142 : X 142 = _ := hI 142 (by kernel_rfl)
   have e147 : X 147 = _ := hI 147 (by kernel_rfl)
   unfold wpOp
   simp only [ho]
   rw [if_pos (by rfl)]
   left
   rw [frame183]
   go_simp
   refine metK (hK.out (.agg #[.int .i64 (5 + (kN L 6 : Int) % 60), .int .i64 (1 + (kN L 6 : Int) / 60 % 4), .int .i64 ((kN L 6 : Int) / 240 % 5), .int .i64 0, .int .i64 0, .int .i64 0, .int .i64 0]) (fun d hd => by cases hd; exact rfl)) ?_
   simp [frame183, Act.put, *]
  ·obtain rfl := Option.some.inj ho
   have e6 : X 6 = _ := hI 6 (by kernel_rfl)
   unfold wpOp
   simp only [ho]
   rw [if_pos (by rfl)]
   left
   rw [frame183]
   go_simp
   refine metK (hK.out (.pointer (some ⟨b6, 11, none⟩)) (fun d hd => by cases hd; exact rfl)) ?_
   simp [frame183, Act.put, *]
  ·exact absurd hmi (by decide)
 ·intro i o ho hmi vs X w' hqi hql hph hX hI K hK
  rcases vs with _ | ⟨v0, _⟩
  ·obtain rfl : 18 = i := hqi
   obtain rfl := Option.some.inj ho
   have e148 : X 148 = _ := hI 148 (by kernel_rfl)
   have e149 : X 149 = _ := hI 149 (by kernel_rfl)
   have hRSx := RS.keep HRS.out hph
   have q11 := hRSx.box.cellR.2 11 _ rfl
   have z11 := hRSx.box.frozen 11
   have q12 := hRSx.box.cellR.2 12 _ rfl
   have z12 := hRSx.box.frozen 12
   have q13 := hRSx.box.cellR.2 13 _ rfl
   have z13 := hRSx.box.frozen 13
   have q14 := hRSx.box.cellR.2 14 _ rfl
   have z14 := hRSx.box.frozen 14
   have q15 := hRSx.box.cellR.2 15 _ rfl
   have z15 := hRSx.box.frozen 15
   have q16 := hRSx.box.cellR.2 16 _ rfl
   have z16 := hRSx.box.frozen 16
   have q17 := hRSx.box.cellR.2 17 _ rfl
   have z17 := hRSx.box.frozen 17
   unfold wpOp
   simp only [ho]
   rw [if_pos (by rfl)]
   left
   rw [frame183]
   go_simp
   refine metK (hK.out undef _ ⟨w', hph, rfl⟩) ?_
   simp [frame183, Act.put, *]
  ·simp at hql <;> omega
 ·intro vs X w' hlen hph hX hI
  have e0 : X 0 = _ := hI 0 (by omega) (by kernel_rfl)
  have e1 : X 1 = _ := hI 1 (by omega) (by kernel_rfl)
  have e2 : X 2 = _ := hI 2 (by omega) (by kernel_rfl)
  have e3 : X 3 = _ := hI 3 (by omega) (by kernel_rfl)
  have e4 : X 4 = _ := hI 4 (by omega) (by kernel_rfl)
  have e5 : X 5 = _ := hI 5 (by omega) (by kernel_rfl)
  have e6 : X 6 = _ := hI 6 (by omega) (by kernel_rfl)
  have e132 : X 132 = _ := hI 132 (by omega) (by kernel_rfl)
  have e133 : X 133 = _ := hI 133 (by omega) (by kernel_rfl)
  have e134 : X 134 = _ := hI 134 (by omega) (by kernel_rfl)
  have e135 : X 135 = _ := hI 135 (by omega) (by kernel_rfl)
  have e136 : X 136 = _ := hI 136 (by omega) (by kernel_rfl)
  have e137 : X 137 = _ := hI 137 (by omega) (by kernel_rfl)
  have e138 : X 138 = _ := hI 138 (by omega) (by kernel_rfl)
  have e139 : X 139 = _ := hI 139 (by omega) (by kernel_rfl)
  have e140 : X 140 = _ := hI 140 (by omega) (by kernel_rfl)
  have e141 : X 141 = _ := hI 141 (by omega) (by kernel_rfl)
  have e142 : X 142 = _ := hI 142 (by omega) (by kernel_rfl)
  have e143 : X 143 = _ := hI 143 (by omega) (by kernel_rfl)
  have e144 : X 144 = _ := hI 144 (by omega) (by kernel_rfl)
  have e145 : X 145 = _ := hI 145 (by omega) (by kernel_rfl)
  have e146 : X 146 = _ := hI 146 (by omega) (by kernel_rfl)
  have e147 : X 147 = _ := hI 147 (by omega) (by kernel_rfl)
  have e148 : X 148 = _ := hI 148 (by omega) (by kernel_rfl)
  have e149 : X 149 = _ := hI 149 (by omega) (by kernel_rfl)
  rcases vs with _ | ⟨v0, _ | ⟨vz, vs⟩⟩
  ·simp at hlen
  rotate_left
  ·simp at hlen
  clear hX hI hlen
  rw [frame183]
  simp only [e0, e1, e2, e3, e4, e5, e6, e132, e133, e134, e135, e136, e137, e138, e139, e140, e141, e142, e143, e144, e145, e146, e147, e148, e149]
  obtain ⟨w1, hE1, rfl⟩ := hph
  have hRS1 := RS.keep HRS.out hE1
  have hRS1_0 := hRS1.set 11 (.int .i64 (5 + (kN L 6 : Int) % 60)) { r with q0 := (5 + (kN L 6 : Int) % 60) } rfl hRS1.own
  have hRS1_1 := hRS1_0.set 12 (.int .i64 (1 + (kN L 6 : Int) / 60 % 4)) { { r with q0 := (5 + (kN L 6 : Int) % 60) } with q1 := (1 + (kN L 6 : Int) / 60 % 4) } rfl hRS1_0.own
  have hRS1_2 := hRS1_1.set 13 (.int .i64 ((kN L 6 : Int) / 240 % 5)) { { { r with q0 := (5 + (kN L 6 : Int) % 60) } with q1 := (1 + (kN L 6 : Int) / 60 % 4) } with q2 := ((kN L 6 : Int) / 240 % 5) } rfl hRS1_1.own
  have hRS1_3 := hRS1_2.set 14 (.int .i64 0) { { { { r with q0 := (5 + (kN L 6 : Int) % 60) } with q1 := (1 + (kN L 6 : Int) / 60 % 4) } with q2 := ((kN L 6 : Int) / 240 % 5) } with q3 := 0 } rfl hRS1_2.own
  have hRS1_4 := hRS1_3.set 15 (.int .i64 0) { { { { { r with q0 := (5 + (kN L 6 : Int) % 60) } with q1 := (1 + (kN L 6 : Int) / 60 % 4) } with q2 := ((kN L 6 : Int) / 240 % 5) } with q3 := 0 } with q4 := 0 } rfl hRS1_3.own
  have hRS1_5 := hRS1_4.set 16 (.int .i64 0) { { { { { { r with q0 := (5 + (kN L 6 : Int) % 60) } with q1 := (1 + (kN L 6 : Int) / 60 % 4) } with q2 := ((kN L 6 : Int) / 240 % 5) } with q3 := 0 } with q4 := 0 } with q5 := 0 } rfl hRS1_4.own
  have hRS1_6 := hRS1_5.set 17 (.int .i64 0) { { { { { { { r with q0 := (5 + (kN L 6 : Int) % 60) } with q1 := (1 + (kN L 6 : Int) / 60 % 4) } with q2 := ((kN L 6 : Int) / 240 % 5) } with q3 := 0 } with q4 := 0 } with q5 := 0 } with q6 := 0 } rfl hRS1_5.own
  have hnx : ∃ r', r'.core = core8 s L ∧ RS w (w1.setCells b6 11 [.int .i64 (5 + (kN L 6 : Int) % 60), .int .i64 (1 + (kN L 6 : Int) / 60 % 4), .int .i64 ((kN L 6 : Int) / 240 % 5), .int .i64 0, .int .i64 0, .int .i64 0, .int .i64 0]) w.heap.size b6 (.slice (some ⟨g3, 0, none⟩) 8 xc) (KL L 8) r' := ⟨_, by unfold core8; rw [← HRC.out]; rfl, hRS1_6⟩
  generalize w1.setCells b6 11 [.int .i64 (5 + (kN L 6 : Int) % 60), .int .i64 (1 + (kN L 6 : Int) / 60 % 4), .int .i64 ((kN L 6 : Int) / 240 % 5), .int .i64 0, .int .i64 0, .int .i64 0, .int .i64 0] = W8 at hnx ⊢
  clear hRS1 hRS1_0 hRS1_1 hRS1_2 hRS1_3 hRS1_4 hRS1_5 hRS1_6 hE1 HKC6 hbc HRC HRS
  clear r
  obtain ⟨r, hrc, hRSr⟩ := hnx
  have HRC := hide hrc
  have HRS := hide hRSr
  clear hrc hRSr
  (try simp only [Exit.then])
  apply_assumption
  exact of_frame183 _ rfl (rule_tail12 L s w _ b6 g3 xc a c u5 _ rfl rfl rfl rfl rfl rfl rfl r HRC.out HRS.out HS5.out)


end Go.Proofs.YtmpciohmljpncaaGreatDoor
