/- Merged texts (GnT5, GnT4). -/
import Derived.Test.YtmpciohmljpncaaGreatDoorZtu
namespace Go.Proofs.YtmpciohmljpncaaGreatDoor
open Go.ChangeShapes Go.WideShapes Go.ChangeAt Go.RowKit Go.Lib Go.Shelf
set_option maxRecDepth 100000 in
set_option maxHeartbeats 32000000 in
theorem rule_tail5 (L : List Int) (s : ByteArray) (w W7 : World) (b6 g3 xc : Nat) (a : Option Addr) (c : Nat) (u5 : Value) (x : Nat → Value) (e0 : x 0 = .slice a L.length c) (e1 : x 1 = undef) (e2 : x 2 = .pointer (some ⟨w.heap.size, 0, none⟩)) (e3 : x 3 = .slice (some ⟨g3, 0, none⟩) 8 xc) (e4 : x 4 = .int .i64 8) (e5 : x 5 = u5) (e6 : x 6 = .pointer (some ⟨b6, 0, none⟩)) (r : RuleD) (hrc : r.core = core1 s L) (hRS : RS w W7 w.heap.size b6 (.slice (some ⟨g3, 0, none⟩) 8 xc) (KL L 8) r) (hs5 : bl s = pathN (kN L 0 / 3)) :
  Code.wp Tryz.prog (ruleTail 5) (bodyPost Tryz.prog Tryz.f27 (RuleP L w)) ⟨frameOf 183 x, []⟩ W7 := by
 conv => arg 2; whnf
 rw [frame183]
 simp only [e0, e1, e2, e3, e4, e5, e6]
 clear e0 e1 e2 e3 e4 e5 e6
 have HRC := hide hrc
 have HRS := hide hRS
 have HS5 := hide hs5
 clear hrc hRS hs5
 have ck := HRS.out.kc 3 _ (KL_get L 8 3 (by omega))
 have t0 : ((kN L 3 : Int)).tmod 3 = ((kN L 3 : Int)) % 3 := Int.tmod_eq_emod_of_nonneg (by omega)
 have t1 : IntKind.i64.wrap ((kN L 3 : Int) % 3) = (kN L 3 : Int) % 3 := IntWalk.i64_in _ (by have := kN_bd L 3; omega)
 go_upto_if 46 with (fail)
 clear ck t0 t1
 go_cut [] from 7 (fun w' => ∃ r', r'.core = core2 s L ∧ RS w w' w.heap.size b6 (.slice (some ⟨g3, 0, none⟩) 8 xc) (KL L 8) r')
 case first =>
  by_cases hm : (kN L 3 : Int) % 3 = 1
  ·go_upto_region 12 with (fail)
   have hP1 : r.P.length = 1 := by
    have := congrArg RuleD.P HRC.out
    have e : r.P = (core1 s L).P := this
    rw [e]
    rfl
   obtain ⟨xp, yp, hpv⟩ := owns_shape HRS.out.own.2.1
   have HPO := hide HRS.out.own.2.1
   rw [hpv] at HPO
   obtain ⟨ip, hip0, hip1, hip2, hip3⟩ := info_partsS Tryz.infoP
   have HPL := hide hP1
   have hpvc : ∀ vs w', vs.length ≤ 1 → (PhQ W7 w.heap.size b6 (.slice xp r.P.length yp) r.P ((1 + ((kN L 3 : Int) + 1) % 4), ((kN L 3 : Int) / 20 % 4))) vs w' → w'.cell? ⟨b6, 3, none⟩ = some (.slice xp r.P.length yp) := fun vs w' hn h => by
    rw [← hpv]
    rcases vs with _ | ⟨u, _ | ⟨u2, vs⟩⟩
    ·exact (RS.keep HRS.out h).box.cellR.2 3 _ rfl
    ·exact (RS.keep HRS.out h.1).box.cellR.2 3 _ rfl
    ·simp at hn
   have HPV := hide hpvc
   clear hpvc hpv hP1
   have HKC3 := hide (show ∀ vs w', vs.length ≤ 0 → (PhQ W7 w.heap.size b6 (.slice xp r.P.length yp) r.P ((1 + ((kN L 3 : Int) + 1) % 4), ((kN L 3 : Int) / 20 % 4))) vs w' → w'.cell? ⟨g3, 3, none⟩ = some (.int .i64 (kN L 3)) from fun vs w' hn h => by
    rcases vs with _ | ⟨u, vs⟩
    ·exact (RS.keep HRS.out h).kc 3 _ (KL_get L 8 3 (by omega))
    ·simp at hn)
   refine wp_region_ph 183 [14, 15, 17] (PhQ W7 w.heap.size b6 (.slice xp r.P.length yp) r.P ((1 + ((kN L 3 : Int) + 1) % 4), ((kN L 3 : Int) / 20 % 4))) (fun t v => match t with | 0 => v = .slice a L.length c | 1 => v = undef | 2 => v = .pointer (some ⟨w.heap.size, 0, none⟩) | 3 => v = .slice (some ⟨g3, 0, none⟩) 8 xc | 4 => v = .int .i64 8 | 5 => v = u5 | 6 => v = .pointer (some ⟨b6, 0, none⟩) | 47 => v = .pointer (some ⟨b6, 3, none⟩) | 48 => v = .slice xp r.P.length yp | 49 => v = .slice (some ⟨g3, 0, none⟩) 8 xc | 50 => v = .pointer (some ⟨g3, 3, none⟩) | 51 => v = .int .i64 (kN L 3 : Int) | 52 => v = .int .i64 ((kN L 3 : Int) + 1) | 53 => v = .int .i64 (((kN L 3 : Int) + 1) % 4) | 54 => v = .int .i64 (1 + ((kN L 3 : Int) + 1) % 4) | 55 => v = .slice (some ⟨g3, 0, none⟩) 8 xc | 56 => v = .pointer (some ⟨g3, 3, none⟩) | 57 => v = .int .i64 (kN L 3 : Int) | 58 => v = .int .i64 ((kN L 3 : Int) / 20) | 59 => v = .int .i64 ((kN L 3 : Int) / 20 % 4) | 60 => v = .agg #[.int .i64 (1 + ((kN L 3 : Int) + 1) % 4), .int .i64 ((kN L 3 : Int) / 20 % 4)] | 63 => v = .pointer (some ⟨b6, 3, none⟩) | _ => True) (by kernel_rfl) rfl (by kernel_rfl) (by kernel_rfl) (by kernel_rfl) ?_ ?_ ?_ ?_ ?_
   ·exact (Below.refl _ _).drew
   ·intro t ht hno
    split <;> first | exact True.intro | exact rfl | exact absurd (hno.symm.trans (by kernel_rfl) : true = false) (by decide)
   ·intro i o ho hmi vs X w' hpk hph hX hI K hK
    have hin : i < 18 := (Array.getElem?_eq_some_iff.1 ho).1
    have hi : i = 0 ∨ i = 1 ∨ i = 2 ∨ i = 3 ∨ i = 4 ∨ i = 5 ∨ i = 6 ∨ i = 7 ∨ i = 8 ∨ i = 9 ∨ i = 10 ∨ i = 11 ∨ i = 12 ∨ i = 13 ∨ i = 14 ∨ i = 15 ∨ i = 16 ∨ i = 17 := by omega
    rcases hi with rfl | rfl | rfl | rfl | rfl | rfl | rfl | rfl | rfl | rfl | rfl | rfl | rfl | rfl | rfl | rfl | rfl | rfl
    ·obtain rfl := Option.some.inj ho
     have e6 : X 6 = _ := hI 6 (by kernel_rfl)
     unfold wpOp
     simp only [ho]
     rw [if_pos (by rfl)]
     left
     rw [frame183]
     go_simp
     refine metK (hK.out (.pointer (some ⟨b6, 3, none⟩)) (fun d hd => by cases hd; exact rfl)) ?_
     simp [frame183, Act.put, *]
    ·obtain rfl := Option.some.inj ho
     have e47 : X 47 = _ := hI 47 (by kernel_rfl)
     have c0 := HPV.out vs w' ((hpk 1 (by decide)).2 (by kernel_rfl)) hph
     unfold wpOp
     simp only [ho]
     rw [if_pos (by rfl)]
     left
     rw [frame183]
     go_simp
     refine metK (hK.out (.slice xp r.P.length yp) (fun d hd => by cases hd; exact rfl)) ?_
     simp [frame183, Act.put, *]
    ·obtain rfl := Option.some.inj ho
     have e3 : X 3 = _ := hI 3 (by kernel_rfl)
     unfold wpOp
     simp only [ho]
     rw [if_pos (by rfl)]
     left
     rw [frame183]
     go_simp
     refine metK (hK.out (.slice (some ⟨g3, 0, none⟩) 8 xc) (fun d hd => by cases hd; exact rfl)) ?_
     simp [frame183, Act.put, *]
    ·obtain rfl := Option.some.inj ho
     have e49 : X 49 = _ := hI 49 (by kernel_rfl)
     unfold wpOp
     simp only [ho]
     rw [if_pos (by rfl)]
     left
     rw [frame183]
     go_simp
     refine metK (hK.out (.pointer (some ⟨g3, 3, none⟩)) (fun d hd => by cases hd; exact rfl)) ?_
     simp [frame183, Act.put, *]
    ·obtain rfl := Option.some.inj ho
     have e50 : X 50 = _ := hI 50 (by kernel_rfl)
     have c0 := HKC3.out vs w' ((hpk 0 (by decide)).2 (by kernel_rfl)) hph
     unfold wpOp
     simp only [ho]
     rw [if_pos (by rfl)]
     left
     rw [frame183]
     go_simp
     refine metK (hK.out (.int .i64 (kN L 3 : Int)) (fun d hd => by cases hd; exact rfl)) ?_
     simp [frame183, Act.put, *]
    ·obtain rfl := Option.some.inj ho
     have e51 : X 51 = _ := hI 51 (by kernel_rfl)
     have t1 : IntKind.i64.wrap ((kN L 3 : Int) + 1) = (kN L 3 : Int) + 1 := IntWalk.i64_in _ (by have := kN_bd L 3; omega)
     unfold wpOp
     simp only [ho]
     rw [if_pos (by rfl)]
     left
     rw [frame183]
     go_simp
     refine metK (hK.out (.int .i64 ((kN L 3 : Int) + 1)) (fun d hd => by cases hd; exact rfl)) ?_
     simp [frame183, Act.put, *]
    ·obtain rfl := Option.some.inj ho
     have e52 : X 52 = _ := hI 52 (by kernel_rfl)
     have t0 : ((kN L 3 : Int) + 1).tmod 4 = ((kN L 3 : Int) + 1) % 4 := Int.tmod_eq_emod_of_nonneg (by omega)
     have t1 : IntKind.i64.wrap (((kN L 3 : Int) + 1) % 4) = ((kN L 3 : Int) + 1) % 4 := IntWalk.i64_in _ (by have := kN_bd L 3; omega)
     unfold wpOp
     simp only [ho]
     rw [if_pos (by rfl)]
     left
     rw [frame183]
     go_simp
     refine metK (hK.out (.int .i64 (((kN L 3 : Int) + 1) % 4)) (fun d hd => by cases hd; exact rfl)) ?_
     simp [frame183, Act.put, *]
    ·obtain rfl := Option.some.inj ho
     have e53 : X 53 = _ := hI 53 (by kernel_rfl)
     have t1 : IntKind.i64.wrap (1 + ((kN L 3 : Int) + 1) % 4) = 1 + ((kN L 3 : Int) + 1) % 4 := IntWalk.i64_in _ (by have := kN_bd L 3; omega)
     unfold wpOp
     simp only [ho]
     rw [if_pos (by rfl)]
     left
     rw [frame183]
     go_simp
     refine metK (hK.out (.int .i64 (1 + ((kN L 3 : Int) + 1) % 4)) (fun d hd => by cases hd; exact rfl)) ?_
     simp [frame183, Act.put, *]
    ·obtain rfl := Option.some.inj ho
     have e3 : X 3 = _ := hI 3 (by kernel_rfl)
     unfold wpOp
     simp only [ho]
     rw [if_pos (by rfl)]
     left
     rw [frame183]
     go_simp
     refine metK (hK.out (.slice (some ⟨g3, 0, none⟩) 8 xc) (fun d hd => by cases hd; exact rfl)) ?_
     simp [frame183, Act.put, *]
    ·obtain rfl := Option.some.inj ho
     have e55 : X 55 = _ := hI 55 (by kernel_rfl)
     unfold wpOp
     simp only [ho]
     rw [if_pos (by rfl)]
     left
     rw [frame183]
     go_simp
     refine metK (hK.out (.pointer (some ⟨g3, 3, none⟩)) (fun d hd => by cases hd; exact rfl)) ?_
     simp [frame183, Act.put, *]
    ·obtain rfl := Option.some.inj ho
     have e56 : X 56 = _ := hI 56 (by kernel_rfl)
     have c0 := HKC3.out vs w' ((hpk 0 (by decide)).2 (by kernel_rfl)) hph
     unfold wpOp
     simp only [ho]
     rw [if_pos (by rfl)]
     left
     rw [frame183]
     go_simp
     refine metK (hK.out (.int .i64 (kN L 3 : Int)) (fun d hd => by cases hd; exact rfl)) ?_
     simp [frame183, Act.put, *]
    ·obtain rfl := Option.some.inj ho
     have e57 : X 57 = _ := hI 57 (by kernel_rfl)
     have t0 : ((kN L 3 : Int)).tdiv 20 = ((kN L 3 : Int)) / 20 := Int.tdiv_eq_ediv_of_nonneg (by omega)
     have t1 : IntKind.i64.wrap ((kN L 3 : Int) / 20) = (kN L 3 : Int) / 20 := IntWalk.i64_in _ (by have := kN_bd L 3; omega)
     unfold wpOp
     simp only [ho]
     rw [if_pos (by rfl)]
     left
     rw [frame183]
     go_simp
     refine metK (hK.out (.int .i64 ((kN L 3 : Int) / 20)) (fun d hd => by cases hd; exact rfl)) ?_
     simp [frame183, Act.put, *]
    ·obtain rfl := Option.some.inj ho
     have e58 : X 58 = _ := hI 58 (by kernel_rfl)
     have t0 : ((kN L 3 : Int) / 20).tmod 4 = ((kN L 3 : Int) / 20) % 4 := Int.tmod_eq_emod_of_nonneg (by omega)
     have t1 : IntKind.i64.wrap ((kN L 3 : Int) / 20 % 4) = (kN L 3 : Int) / 20 % 4 := IntWalk.i64_in _ (by have := kN_bd L 3; omega)
     unfold wpOp
     simp only [ho]
     rw [if_pos (by rfl)]
     left
     rw [frame183]
     go_simp
     refine metK (hK.out (.int .i64 ((kN L 3 : Int) / 20 % 4)) (fun d hd => by cases hd; exact rfl)) ?_
     simp [frame183, Act.put, *]
    ·obtain rfl := Option.some.inj ho
     have e54 : X 54 = _ := hI 54 (by kernel_rfl)
     have e59 : X 59 = _ := hI 59 (by kernel_rfl)
     unfold wpOp
     simp only [ho]
     rw [if_pos (by rfl)]
     left
     rw [frame183]
     go_simp
     refine metK (hK.out (.agg #[.int .i64 (1 + ((kN L 3 : Int) + 1) % 4), .int .i64 ((kN L 3 : Int) / 20 % 4)]) (fun d hd => by cases hd; exact rfl)) ?_
     simp [frame183, Act.put, *]
    ·exact absurd hmi (by decide)
    ·exact absurd hmi (by decide)
    ·obtain rfl := Option.some.inj ho
     have e6 : X 6 = _ := hI 6 (by kernel_rfl)
     unfold wpOp
     simp only [ho]
     rw [if_pos (by rfl)]
     left
     rw [frame183]
     go_simp
     refine metK (hK.out (.pointer (some ⟨b6, 3, none⟩)) (fun d hd => by cases hd; exact rfl)) ?_
     simp [frame183, Act.put, *]
    ·exact absurd hmi (by decide)
   ·intro i o ho hmi vs X w' hqi hql hph hX hI K hK
    rcases vs with _ | ⟨v0, _ | ⟨v1, _ | ⟨v2, _⟩⟩⟩
    ·obtain rfl : 14 = i := hqi
     obtain rfl := Option.some.inj ho
     have e60 : X 60 = _ := hI 60 (by kernel_rfl)
     unfold wpOp
     simp only [ho]
     rw [if_pos (by rfl)]
     left
     rw [frame183]
     go_simp
     refine metK (hK.out (.slice (some ⟨w'.heap.size, 0, none⟩) 1 1) _ ⟨hph.trans ((Below.refl _ w').alloc (Nat.le_refl _) _), parts_new1 w' _ _ _⟩) ?_
     simp [frame183, Act.put, *]
    ·obtain rfl : 15 = i := hqi
     obtain rfl := Option.some.inj ho
     have e48 : X 48 = _ := hI 48 (by kernel_rfl)
     have e61 : X 61 = v0 := hX 0 61 (by simp) (by kernel_rfl)
     obtain ⟨hE1, hsl⟩ := hph
     unfold wpOp
     simp only [ho]
     rw [if_pos (by rfl)]
     left
     rw [frame183]
     refine wp_append_sl (enc := encP) _ _ _ rfl w.heap.size 60 ip _ 2 16 Tryz.underlying49 hip0 hip1 hip2 hip3 rfl (by decide) (fun _ => rfl) (.slice xp r.P.length yp) r.P.length (r.P.flatMap encP) e48 (owns_ext HPO.out hE1) _ e61 [((1 + ((kN L 3 : Int) + 1) % 4), ((kN L 3 : Int) / 20 % 4))] hsl (fun x _ => encP_one x) (by unfold maxLen; have := HPL.out; simp; omega) (by have := HPL.out; simp; omega) (Nat.le_trans HRS.out.ext.size hE1.size) ?_
     intro v' w'' hwn hg
     obtain ⟨x, y, rfl⟩ := owns_shape hwn
     have hk : Keeps (fun g => (Value.slice xp r.P.length yp).ownBlock = some g) w' w'' := Keeps.of_grown hg (fun g h => h)
     refine metK (hK.out (.slice x (r.P.length + 1) y) w'' ⟨x, y, rfl, hwn, (Keeps.of_ext hE1).trans hk⟩) ?_
     simp [frame183, Act.put, *]
    ·obtain rfl : 17 = i := hqi
     obtain rfl := Option.some.inj ho
     have e62 : X 62 = v1 := hX 1 62 (by simp) (by kernel_rfl)
     have e63 : X 63 = _ := hI 63 (by kernel_rfl)
     obtain ⟨x, y, rfl, hwn, hk⟩ := hph
     have hbb := HRS.out.box
     obtain ⟨cb, hb1, hb2⟩ := hbb
     have hne : ¬ (Value.slice xp r.P.length yp).ownBlock = some b6 := fun e => absurd (owns_type HPO.out e hb1) (by decide)
     have hbx : BoxR w' b6 r := HRS.out.box.keep (hk.block _ HRS.out.box.lt hne)
     have c0 := hbx.cellR.2 3 _ rfl
     have z0 := hbx.frozen 3
     unfold wpOp
     simp only [ho]
     rw [if_pos (by rfl)]
     left
     rw [frame183]
     go_simp
     refine metK (hK.out undef _ ⟨w', hwn, hk, rfl⟩) ?_
     simp [frame183, Act.put, *]
    ·simp at hql <;> omega
   ·intro vs X w' hlen hph hX hI
    have e0 : X 0 = _ := hI 0 (by omega) (by kernel_rfl)
    have e1 : X 1 = _ := hI 1 (by omega) (by kernel_rfl)
    have e2 : X 2 = _ := hI 2 (by omega) (by kernel_rfl)
    have e3 : X 3 = _ := hI 3 (by omega) (by kernel_rfl)
    have e4 : X 4 = _ := hI 4 (by omega) (by kernel_rfl)
    have e5 : X 5 = _ := hI 5 (by omega) (by kernel_rfl)
    have e6 : X 6 = _ := hI 6 (by omega) (by kernel_rfl)
    have e47 : X 47 = _ := hI 47 (by omega) (by kernel_rfl)
    have e48 : X 48 = _ := hI 48 (by omega) (by kernel_rfl)
    have e49 : X 49 = _ := hI 49 (by omega) (by kernel_rfl)
    have e50 : X 50 = _ := hI 50 (by omega) (by kernel_rfl)
    have e51 : X 51 = _ := hI 51 (by omega) (by kernel_rfl)
    have e52 : X 52 = _ := hI 52 (by omega) (by kernel_rfl)
    have e53 : X 53 = _ := hI 53 (by omega) (by kernel_rfl)
    have e54 : X 54 = _ := hI 54 (by omega) (by kernel_rfl)
    have e55 : X 55 = _ := hI 55 (by omega) (by kernel_rfl)
    have e56 : X 56 = _ := hI 56 (by omega) (by kernel_rfl)
    have e57 : X 57 = _ := hI 57 (by omega) (by kernel_rfl)
    have e58 : X 58 = _ := hI 58 (by omega) (by kernel_rfl)
    have e59 : X 59 = _ := hI 59 (by omega) (by kernel_rfl)
    have e60 : X 60 = _ := hI 60 (by omega) (by kernel_rfl)
    have e63 : X 63 = _ := hI 63 (by omega) (by kernel_rfl)
    rcases vs with _ | ⟨v0, _ | ⟨v1, _ | ⟨v2, _ | ⟨vz, vs⟩⟩⟩⟩
    ·simp at hlen
    ·simp at hlen
    ·simp at hlen
    rotate_left
    ·simp at hlen
    have e61 : X 61 = v0 := hX 0 61 (by simp) (by kernel_rfl)
    have e62 : X 62 = v1 := hX 1 62 (by simp) (by kernel_rfl)
    clear hX hI hlen
    rw [frame183]
    simp only [e0, e1, e2, e3, e4, e5, e6, e47, e48, e49, e50, e51, e52, e53, e54, e55, e56, e57, e58, e59, e60, e61, e62, e63]
    obtain ⟨w1, hwn, hk, rfl⟩ := hph
    have hRS1 := HRS.out.app hk HPO.out hwn
    have hnx : ∃ r', r'.core = core2 s L ∧ RS w (w1.setCell ⟨b6, 3, none⟩ v1) w.heap.size b6 (.slice (some ⟨g3, 0, none⟩) 8 xc) (KL L 8) r' := ⟨_, by unfold core2; rw [if_pos hm, ← HRC.out]; rfl, hRS1⟩
    go_wp2
    go_meet
    case rel => exact hnx

  ·go_wp2
   go_meet
   case rel => exact ⟨r, by rw [HRC.out]; unfold core2; rw [if_neg hm], HRS.out⟩
 case rest =>
  clear HRS HRC
  obtain ⟨r, hrc, hRSr⟩ := hcut
  have HRC := hide hrc
  have HRS := hide hRSr
  clear hrc hRSr
  (try simp only [Exit.inBlock, Exit.then])
  apply_assumption
  exact of_frame183 _ rfl (rule_tail6 L s w _ b6 g3 xc a c u5 _ rfl rfl rfl rfl rfl rfl rfl r HRC.out HRS.out HS5.out)

end Go.Proofs.YtmpciohmljpncaaGreatDoor
namespace Go.Proofs.YtmpciohmljpncaaGreatDoor
open Go.ChangeShapes Go.WideShapes Go.ChangeAt Go.RowKit Go.Lib Go.Shelf
set_option maxRecDepth 100000 in
set_option maxHeartbeats 32000000 in
theorem rule_tail4 (L : List Int) (s : ByteArray) (w W6 : World) (b6 g3 xc : Nat) (a : Option Addr) (c : Nat) (u5 : Value) (x : Nat → Value) (e0 : x 0 = .slice a L.length c) (e1 : x 1 = undef) (e2 : x 2 = .pointer (some ⟨w.heap.size, 0, none⟩)) (e3 : x 3 = .slice (some ⟨g3, 0, none⟩) 8 xc) (e4 : x 4 = .int .i64 8) (e5 : x 5 = u5) (e6 : x 6 = .pointer (some ⟨b6, 0, none⟩)) (r : RuleD) (hrc : r.core = core0 s L) (hRS : RS w W6 w.heap.size b6 (.slice (some ⟨g3, 0, none⟩) 8 xc) (KL L 8) r) (hs5 : bl s = pathN (kN L 0 / 3)) :
  Code.wp Tryz.prog (ruleTail 4) (bodyPost Tryz.prog Tryz.f27 (RuleP L w)) ⟨frameOf 183 x, []⟩ W6 := by
 conv => arg 2; whnf
 rw [frame183]
 simp only [e0, e1, e2, e3, e4, e5, e6]
 clear e0 e1 e2 e3 e4 e5 e6
 have HRC := hide hrc
 have HRS := hide hRS
 have HS5 := hide hs5
 clear hrc hRS hs5
 go_upto_region 10 with (fail)
 have HKC3 := hide (show ∀ vs w', vs.length ≤ 0 → (PhP W6 b6 ((1 + (kN L 3 : Int) % 4), (1 + (kN L 3 : Int) / 4 % 5))) vs w' → w'.cell? ⟨g3, 3, none⟩ = some (.int .i64 (kN L 3)) from fun vs w' hn h => by
  rcases vs with _ | ⟨u, vs⟩
  ·exact (RS.keep HRS.out h).kc 3 _ (KL_get L 8 3 (by omega))
  ·simp at hn)
 refine wp_region_ph 183 [12, 14] (PhP W6 b6 ((1 + (kN L 3 : Int) % 4), (1 + (kN L 3 : Int) / 4 % 5))) (fun t v => match t with | 0 => v = .slice a L.length c | 1 => v = undef | 2 => v = .pointer (some ⟨w.heap.size, 0, none⟩) | 3 => v = .slice (some ⟨g3, 0, none⟩) 8 xc | 4 => v = .int .i64 8 | 5 => v = u5 | 6 => v = .pointer (some ⟨b6, 0, none⟩) | 28 => v = .slice (some ⟨g3, 0, none⟩) 8 xc | 29 => v = .pointer (some ⟨g3, 3, none⟩) | 30 => v = .int .i64 (kN L 3 : Int) | 31 => v = .int .i64 ((kN L 3 : Int) % 4) | 32 => v = .int .i64 (1 + (kN L 3 : Int) % 4) | 33 => v = .slice (some ⟨g3, 0, none⟩) 8 xc | 34 => v = .pointer (some ⟨g3, 3, none⟩) | 35 => v = .int .i64 (kN L 3 : Int) | 36 => v = .int .i64 ((kN L 3 : Int) / 4) | 37 => v = .int .i64 ((kN L 3 : Int) / 4 % 5) | 38 => v = .int .i64 (1 + (kN L 3 : Int) / 4 % 5) | 39 => v = .agg #[.int .i64 (1 + (kN L 3 : Int) % 4), .int .i64 (1 + (kN L 3 : Int) / 4 % 5)] | 41 => v = .pointer (some ⟨b6, 3, none⟩) | _ => True) (by kernel_rfl) rfl (by kernel_rfl) (by kernel_rfl) (by kernel_rfl) ?_ ?_ ?_ ?_ ?_
 ·exact (Below.refl _ _).drew
 ·intro t ht hno
  split <;> first | exact True.intro | exact rfl | exact absurd (hno.symm.trans (by kernel_rfl) : true = false) (by decide)
 ·intro i o ho hmi vs X w' hpk hph hX hI K hK
  have hin : i < 15 := (Array.getElem?_eq_some_iff.1 ho).1
  have hi : i = 0 ∨ i = 1 ∨ i = 2 ∨ i = 3 ∨ i = 4 ∨ i = 5 ∨ i = 6 ∨ i = 7 ∨ i = 8 ∨ i = 9 ∨ i = 10 ∨ i = 11 ∨ i = 12 ∨ i = 13 ∨ i = 14 := by omega
  rcases hi with rfl | rfl | rfl | rfl | rfl | rfl | rfl | rfl | rfl | rfl | rfl | rfl | rfl | rfl | rfl
  ·obtain rfl := Option.some.inj ho
   have e3 : X 3 = _ := hI 3 (by kernel_rfl)
   unfold wpOp
   simp only [ho]
   rw [if_pos (by rfl)]
   left
   rw [frame183]
   go_simp
   refine metK (hK.out (.slice (some ⟨g3, 0, none⟩) 8 xc) (fun d hd => by cases hd; exact rfl)) ?_
   simp [frame183, Act.put, *]
  ·obtain rfl := Option.some.inj ho
   have e28 : X 28 = _ := hI 28 (by kernel_rfl)
   unfold wpOp
   simp only [ho]
   rw [if_pos (by rfl)]
   left
   rw [frame183]
   go_simp
   refine metK (hK.out (.pointer (some ⟨g3, 3, none⟩)) (fun d hd => by cases hd; exact rfl)) ?_
   simp [frame183, Act.put, *]
  ·obtain rfl := Option.some.inj ho
   have e29 : X 29 = _ := hI 29 (by kernel_rfl)
   have c0 := HKC3.out vs w' ((hpk 0 (by decide)).2 (by kernel_rfl)) hph
   unfold wpOp
   simp only [ho]
   rw [if_pos (by rfl)]
   left
   rw [frame183]
   go_simp
   refine metK (hK.out (.int .i64 (kN L 3 : Int)) (fun d hd => by cases hd; exact rfl)) ?_
   simp [frame183, Act.put, *]
  ·obtain rfl := Option.some.inj ho
   have e30 : X 30 = _ := hI 30 (by kernel_rfl)
   have t0 : ((kN L 3 : Int)).tmod 4 = ((kN L 3 : Int)) % 4 := Int.tmod_eq_emod_of_nonneg (by omega)
   have t1 : IntKind.i64.wrap ((kN L 3 : Int) % 4) = (kN L 3 : Int) % 4 := IntWalk.i64_in _ (by have := kN_bd L 3; omega)
   unfold wpOp
   simp only [ho]
   rw [if_pos (by rfl)]
   left
   rw [frame183]
   go_simp
   refine metK (hK.out (.int .i64 ((kN L 3 : Int) % 4)) (fun d hd => by cases hd; exact rfl)) ?_
   simp [frame183, Act.put, *]
  ·obtain rfl := Option.some.inj ho
   have e31 : X 31 = _ := hI 31 (by kernel_rfl)
   have t1 : IntKind.i64.wrap (1 + (kN L 3 : Int) % 4) = 1 + (kN L 3 : Int) % 4 := IntWalk.i64_in _ (by have := kN_bd L 3; omega)
   unfold wpOp
   simp only [ho]
   rw [if_pos (by rfl)]
   left
   rw [frame183]
   go_simp
   refine metK (hK.out (.int .i64 (1 + (kN L 3 : Int) % 4)) (fun d hd => by cases hd; exact rfl)) ?_
   simp [frame183, Act.put, *]
  ·obtain rfl := Option.some.inj ho
   have e3 : X 3 = _ := hI 3 (by kernel_rfl)
   unfold wpOp
   simp only [ho]
   rw [if_pos (by rfl)]
   left
   rw [frame183]
   go_simp
   refine metK (hK.out (.slice (some ⟨g3, 0, none⟩) 8 xc) (fun d hd => by cases hd; exact rfl)) ?_
   simp [frame183, Act.put, *]
  ·obtain rfl := Option.some.inj ho
   have e33 : X 33 = _ := hI 33 (by kernel_rfl)
   unfold wpOp
   simp only [ho]
   rw [if_pos (by rfl)]
   left
   rw [frame183]
   go_simp
   refine metK (hK.out (.pointer (some ⟨g3, 3, none⟩)) (fun d hd => by cases hd; exact rfl)) ?_
   simp [frame183, Act.put, *]
  ·obtain rfl := Option.some.inj ho
   have e34 : X 34 = _ := hI 34 (by kernel_rfl)
   have c0 := HKC3.out vs w' ((hpk 0 (by decide)).2 (by kernel_rfl)) hph
   unfold wpOp
   simp only [ho]
   rw [if_pos (by rfl)]
   left
   rw [frame183]
   go_simp
   refine metK (hK.out (.int .i64 (kN L 3 : Int)) (fun d hd => by cases hd; exact rfl)) ?_
   simp [frame183, Act.put, *]
  ·obtain rfl := Option.some.inj ho
   have e35 : X 35 = _ := hI 35 (by kernel_rfl)
   have t0 : ((kN L 3 : Int)).tdiv 4 = ((kN L 3 : Int)) / 4 := Int.tdiv_eq_ediv_of_nonneg (by omega)
   have t1 : IntKind.i64.wrap ((kN L 3 : Int) / 4) = (kN L 3 : Int) / 4 := IntWalk.i64_in _ (by have := kN_bd L 3; omega)
   unfold wpOp
   simp only [ho]
   rw [if_pos (by rfl)]
   left
   rw [frame183]
   go_simp
   refine metK (hK.out (.int .i64 ((kN L 3 : Int) / 4)) (fun d hd => by cases hd; exact rfl)) ?_
   simp [frame183, Act.put, *]
  ·obtain rfl := Option.some.inj ho
   have e36 : X 36 = _ := hI 36 (by kernel_rfl)
   have t0 : ((kN L 3 : Int) / 4).tmod 5 = ((kN L 3 : Int) / 4) % 5 := Int.tmod_eq_emod_of_nonneg (by omega)
   have t1 : IntKind.i64.wrap ((kN L 3 : Int) / 4 % 5) = (kN L 3 : Int) / 4 % 5 := IntWalk.i64_in _ (by have := kN_bd L 3; omega)
   unfold wpOp
   simp only [ho]
   rw [if_pos (by rfl)]
   left
   rw [frame183]
   go_simp
   refine metK (hK.out (.int .i64 ((kN L 3 : Int) / 4 % 5)) (fun d hd => by cases hd; exact rfl)) ?_
   simp [frame183, Act.put, *]
  ·obtain rfl := Option.some.inj ho
   have e37 : X 37 = _ := hI 37 (by kernel_rfl)
   have t1 : IntKind.i64.wrap (1 + (kN L 3 : Int) / 4 % 5) = 1 + (kN L 3 : Int) / 4 % 5 := IntWalk.i64_in _ (by have := kN_bd L 3; omega)
   unfold wpOp
   simp only [ho]
   rw [if_pos (by rfl)]
   left
   rw [frame183]
   go_simp
   refine metK (hK.out (.int .i64 (1 + (kN L 3 : Int) / 4 % 5)) (fun d hd => by cases hd; exact rfl)) ?_
   simp [frame183, Act.put, *]
  ·obtain rfl := Option.some.inj ho
   have e32 : X 32 = _ := hI 32 (by kernel_rfl)
   have e38 : X 38 = _ := hI 38 (by kernel_rfl)
   unfold wpOp
   simp only [ho]
   rw [if_pos (by rfl)]
   left
   rw [frame183]
   go_simp
   refine metK (hK.out (.agg #[.int .i64 (1 + (kN L 3 : Int) % 4), .int .i64 (1 + (kN L 3 : Int) / 4 % 5)]) (fun d hd => by cases hd; exact rfl)) ?_
   simp [frame183, Act.put, *]
  ·exact absurd hmi (by decide)
  ·obtain rfl := Option.some.inj ho
   have e6 : X 6 = _ := hI 6 (by kernel_rfl)
   unfold wpOp
   simp only [ho]
   rw [if_pos (by rfl)]
   left
   rw [frame183]
   go_simp
   refine metK (hK.out (.pointer (some ⟨b6, 3, none⟩)) (fun d hd => by cases hd; exact rfl)) ?_
   simp [frame183, Act.put, *]
  ·exact absurd hmi (by decide)
 ·intro i o ho hmi vs X w' hqi hql hph hX hI K hK
  rcases vs with _ | ⟨v0, _ | ⟨v1, _⟩⟩
  ·obtain rfl : 12 = i := hqi
   obtain rfl := Option.some.inj ho
   have e39 : X 39 = _ := hI 39 (by kernel_rfl)
   unfold wpOp
   simp only [ho]
   rw [if_pos (by rfl)]
   left
   rw [frame183]
   go_simp
   refine metK (hK.out (.slice (some ⟨w'.heap.size, 0, none⟩) 1 1) _ ⟨hph.trans ((Below.refl _ w').alloc (Nat.le_refl _) _), owns_le (World.ownsRow_lit (base := w'.heap.size) w' #[.int .i64 (1 + (kN L 3 : Int) % 4), .int .i64 (1 + (kN L 3 : Int) / 4 % 5)] 1 (Nat.le_refl _) (by unfold maxLen; omega) rfl) hph.size⟩) ?_
   simp [frame183, Act.put, *]
  ·obtain rfl : 14 = i := hqi
   obtain rfl := Option.some.inj ho
   have e40 : X 40 = v0 := hX 0 40 (by simp) (by kernel_rfl)
   have e41 : X 41 = _ := hI 41 (by kernel_rfl)
   obtain ⟨hE1, hwn⟩ := hph
   obtain ⟨x0, y0, hv0⟩ := owns_shape hwn
   subst hv0
   have hRS1 := RS.keep HRS.out hE1
   have c0 := hRS1.box.cellR.2 3 _ rfl
   have z0 := hRS1.box.frozen 3
   unfold wpOp
   simp only [ho]
   rw [if_pos (by rfl)]
   left
   rw [frame183]
   go_simp
   refine metK (hK.out undef _ ⟨w', hE1, hwn, rfl⟩) ?_
   simp [frame183, Act.put, *]
  ·simp at hql <;> omega
 ·intro vs X w' hlen hph hX hI
  have e0 : X 0 = _ := hI 0 (by omega) (by kernel_rfl)
  have e1 : X 1 = _ := hI 1 (by omega) (by kernel_rfl)
  have e2 : X 2 = _ := hI 2 (by omega) (by kernel_rfl)
  have e3 : X 3 = _ := hI 3 (by omega) (by kernel_rfl)
  have e4 : X 4 = _ := hI 4 (by omega) (by kernel_rfl)
  have e5 : X 5 = _ := hI 5 (by omega) (by kernel_rfl)
  have e6 : X 6 = _ := hI 6 (by omega) (by kernel_rfl)
  have e28 : X 28 = _ := hI 28 (by omega) (by kernel_rfl)
  have e29 : X 29 = _ := hI 29 (by omega) (by kernel_rfl)
  have e30 : X 30 = _ := hI 30 (by omega) (by kernel_rfl)
  have e31 : X 31 = _ := hI 31 (by omega) (by kernel_rfl)
  have e32 : X 32 = _ := hI 32 (by omega) (by kernel_rfl)
  have e33 : X 33 = _ := hI 33 (by omega) (by kernel_rfl)
  have e34 : X 34 = _ := hI 34 (by omega) (by kernel_rfl)
  have e35 : X 35 = _ := hI 35 (by omega) (by kernel_rfl)
  have e36 : X 36 = _ := hI 36 (by omega) (by kernel_rfl)
  have e37 : X 37 = _ := hI 37 (by omega) (by kernel_rfl)
  have e38 : X 38 = _ := hI 38 (by omega) (by kernel_rfl)
  have e39 : X 39 = _ := hI 39 (by omega) (by kernel_rfl)
  have e41 : X 41 = _ := hI 41 (by omega) (by kernel_rfl)
  rcases vs with _ | ⟨v0, _ | ⟨v1, _ | ⟨vz, vs⟩⟩⟩
  ·simp at hlen
  ·simp at hlen
  rotate_left
  ·simp at hlen
  have e40 : X 40 = v0 := hX 0 40 (by simp) (by kernel_rfl)
  clear hX hI hlen
  rw [frame183]
  simp only [e0, e1, e2, e3, e4, e5, e6, e28, e29, e30, e31, e32, e33, e34, e35, e36, e37, e38, e39, e40, e41]
  obtain ⟨w1, hE1, hwn, rfl⟩ := hph
  have hRS1 := RS.keep HRS.out hE1
  have hwn2 := owns_le hwn HRS.out.ext.size
  have hRS2 := hRS1.set 3 v0 { r with pv := v0, P := [((1 + (kN L 3 : Int) % 4), (1 + (kN L 3 : Int) / 4 % 5))] } rfl ⟨hRS1.own.1, hwn2, hRS1.own.2.2.1, hRS1.own.2.2.2⟩
  have hnx : ∃ r', r'.core = core1 s L ∧ RS w (w1.setCell ⟨b6, 3, none⟩ v0) w.heap.size b6 (.slice (some ⟨g3, 0, none⟩) 8 xc) (KL L 8) r' := ⟨_, by have := HRC.out; unfold core1; rw [← this]; rfl, hRS2⟩
  generalize w1.setCell ⟨b6, 3, none⟩ v0 = W7 at hnx ⊢
  clear hRS1 hRS2 hwn hwn2 hE1 HKC3 HRC HRS
  clear r
  obtain ⟨r, hrc, hRSr⟩ := hnx
  have HRC := hide hrc
  have HRS := hide hRSr
  clear hrc hRSr
  (try simp only [Exit.then])
  apply_assumption
  exact of_frame183 _ rfl (rule_tail5 L s w _ b6 g3 xc a c u5 _ rfl rfl rfl rfl rfl rfl rfl r HRC.out HRS.out HS5.out)


end Go.Proofs.YtmpciohmljpncaaGreatDoor
