/- Merged texts (PnF, PnG, PnI). -/
import Derived.Test.YtkhebanpplokdaaGreatDoorZpe
import Derived.Test.YtkhebanpplokdaaGreatDoorSnD
namespace Go.Proofs.YtkhebanpplokdaaGreatDoor
open Go.ChangeShapes Go.WideShapes Go.ChangeAt Go.RowKit Go.Lib Go.Shelf Go.Maps
/-- the phases of 'p.said[at] = w' -/
def PhSay (W : World) (bm : Nat) (pl : PlD) (y : Keyd) (x : Int) (N : Nat) : List Value → World → Prop
 | [], w' => Ext W w'
 | _ :: _, w' => ∃ w8 w9 n, Ext W w8 ∧ n ≤ N ∧ w8.mapTurned w9 bm ∧ MapV mkA w9 131 bm (n + 1) (fun z => if z = y then some (.int .i64 x) else saidF pl z) ∧ Ext w9 w'
theorem PhSay.keep {W : World} {bm : Nat} {pl : PlD} {y : Keyd} {x : Int} {N : Nat} : ∀ {vs : List Value} {w' w'' : World}, PhSay W bm pl y x N vs w' → Ext w' w'' → PhSay W bm pl y x N vs w''
 | [], _, _, h, e => Ext.trans h e
 | _ :: _, _, _, ⟨w8, w9, n, h1, h2, h3, h4, h5⟩, e => ⟨w8, w9, n, h1, h2, h3, h4, h5.trans e⟩
theorem PhSay.x {W : World} {bm : Nat} {pl : PlD} {y : Keyd} {x : Int} {N : Nat} {vs : List Value} {w' : World} (h : PhSay W bm pl y x N vs w') (hl : vs.length ≤ 0) : Ext W w' := by
 rcases vs with _ | ⟨v, vs⟩
 ·exact h
 ·simp at hl
set_option maxRecDepth 100000 in
set_option maxHeartbeats 8000000 in
theorem say_any {B : Nat} {w : World} {p bm : Nat} {vv : Value} {N : Nat} {pl : PlD} (h : PlaneIs B w p bm vv N pl) (pr ve x : Int) (hI : I64 pr ∧ I64 ve) (hx : x ≠ 0) (hN : N < 1000000) :
  Calls Tryz.prog 60 #[.pointer (some ⟨p, 0, none⟩), .int .i64 pr, .int .i64 ve, .int .i64 x] w fun e w' => e = .returned (.int .i64 (sayE pl pr ve)) ∧ ((sayE pl pr ve ≠ 0 ∧ Ext w w') ∨ (sayE pl pr ve = 0 ∧ Keeps (fun q => q = bm) w w' ∧ PlaneIs B w' p bm vv (N + 1) (sayP pl pr ve x))) := by
 have ha : Ext w (w.alloc (.cells #[.int .i64 pr, .int .i64 ve] 131)) := (Below.refl _ _).alloc (Nat.le_refl _) _
 have hb := heap_alloc_new w (.cells #[.int .i64 pr, .int .i64 ve] 131)
 have H0 := hide h
 have HI := hide hI
 have HX0 := hide hx
 have HN := hide hN
 clear h hI hx hN
 go_enter Tryz.func60, Tryz.ntmps60
 go_wp2_with fail
 generalize w.alloc (.cells #[.int .i64 pr, .int .i64 ve] 131) = W at ha hb ⊢
 obtain ⟨ba, hba⟩ : ∃ b, w.heap.size = b := ⟨_, rfl⟩
 rw [hba] at hb ⊢
 have H := hide (H0.out.ext ha)
 have HA := hide (show ∀ X, Ext W X → X.cell? ⟨ba, 0, none⟩ = some (.int .i64 pr) ∧ X.cell? ⟨ba, 1, none⟩ = some (.int .i64 ve) from fun X hX => by
  have h1 := (hX.block ba (Array.getElem?_eq_some_iff.1 hb).1).trans hb
  exact ⟨by simp [World.cell?, h1], by simp [World.cell?, h1]⟩)
 have E1 := hide ha
 clear ha hb hba
 refine (isProxy_any H.out pr).mono ?_
 rintro e w2 ⟨rfl, rfl⟩
 obtain ⟨ip, hip⟩ : ∃ b, isPr pl pr = b := ⟨_, rfl⟩
 rw [hip]
 cases ip with
 | false =>
  have hs : sayE pl pr ve = 1 := by unfold sayE; rw [if_pos hip]
  have HS := hide hs
  clear hs hip
  go_wp2
  go_ret
  exact ⟨by rw [HS.out]; rfl, .inl ⟨by rw [HS.out]; decide, E1.out⟩⟩
 | true =>
 have HIP := hide hip
 clear hip
 go_wp2_with fail
 refine (wasMade_any H.out ve).mono ?_
 rintro e w2 ⟨rfl, rfl⟩
 obtain ⟨wm, hwm⟩ : ∃ b, wasM pl ve = b := ⟨_, rfl⟩
 rw [hwm]
 cases wm with
 | false =>
  have hs : sayE pl pr ve = 17 := by unfold sayE; rw [if_neg (by rw [HIP.out]; decide), if_pos hwm]
  have HS := hide hs
  clear hs hwm
  go_wp2
  go_ret
  exact ⟨by rw [HS.out]; rfl, .inl ⟨by rw [HS.out]; decide, E1.out⟩⟩
 | true =>
 have HWM := hide hwm
 clear hwm
 have HLK := hide (show ∀ X, Ext W X → (Instr.lookup 112 (.map (some bm)) (.agg #[.int .i64 pr, .int .i64 ve]) false).run Tryz.prog X = .ok (.int .i64 (pl.said (pr, ve))) X from fun X hX => (H.out.ext hX).look pr ve HI.out.1 HI.out.2)
 obtain ⟨S, hS⟩ : ∃ S, pl.said (pr, ve) = S := ⟨_, rfl⟩
 rw [hS] at HLK
 have HS0 := hide hS
 obtain ⟨r, hr⟩ : ∃ r, (S != 0) = r := ⟨_, rfl⟩
 have HR := hide hr
 clear hS hr
 go_upto_region 6 with (fail)
 refine wp_region_rw 37 [] [23, 24, 25, 26, 27, 28, 29, 30] (fun _ w' => Ext W w') (fun (t : Nat) (wI : World) (v : Value) => match t with | 23 => v = (.bool r) | 24 => v = (.pointer (some ⟨p, 0, none⟩)) | 25 => v = (.pointer (some ⟨p, 0, none⟩)) | 26 => v = (.pointer (some ⟨p, 2, none⟩)) | 27 => v = (.map (some bm)) | 28 => v = (.agg #[.int .i64 pr, .int .i64 ve]) | 29 => v = (.int .i64 S) | 30 => v = (.bool r) | _ => True) (fun w' w'' => Ext w' w'') (by kernel_rfl) rfl (by kernel_rfl) (by kernel_rfl) (by kernel_rfl) (by kernel_rfl) ?_ ?_ ?_ ?_ ?_ ?_ ?_
 ·intro w' w'' h
  exact h
 ·intro t w' w'' v hR hv
  exact hv
 ·intro vs w' w'' h e
  exact Ext.trans (show Ext _ w' from h) e
 ·exact (Below.refl _ _).drew
 ·intro i o ho hmi vs X w' hpk hph hX hI hF K hK
  have hin : i < 8 := (Array.getElem?_eq_some_iff.1 ho).1
  have hi : i = 0 ∨ i = 1 ∨ i = 2 ∨ i = 3 ∨ i = 4 ∨ i = 5 ∨ i = 6 ∨ i = 7 := by omega
  rcases hi with rfl | rfl | rfl | rfl | rfl | rfl | rfl | rfl
  ·obtain rfl := Option.some.inj ho
   have e0 : X 0 = (.pointer (some ⟨p, 0, none⟩)) := hF 0 (by omega) (by kernel_rfl)
   unfold wpOp
   simp only [ho]
   rw [if_pos (by rfl)]
   left
   rw [frame37]
   go_simp
   refine metK (hK.out ((.pointer (some ⟨p, 0, none⟩))) _ (Below.refl _ _) (fun d hd => by cases hd; exact rfl)) ?_
   simp [frame37, Act.put, *]
  ·obtain rfl := Option.some.inj ho
   have e24 : X 24 = _ := hI 24 (by kernel_rfl) (by kernel_rfl)
   unfold wpOp
   simp only [ho]
   rw [if_pos (by rfl)]
   left
   rw [frame37]
   go_simp
   refine metK (hK.out ((.pointer (some ⟨p, 0, none⟩))) _ (Below.refl _ _) (fun d hd => by cases hd; exact rfl)) ?_
   simp [frame37, Act.put, *]
  ·obtain rfl := Option.some.inj ho
   have e25 : X 25 = _ := hI 25 (by kernel_rfl) (by kernel_rfl)
   unfold wpOp
   simp only [ho]
   rw [if_pos (by rfl)]
   left
   rw [frame37]
   go_simp
   refine metK (hK.out ((.pointer (some ⟨p, 2, none⟩))) _ (Below.refl _ _) (fun d hd => by cases hd; exact rfl)) ?_
   simp [frame37, Act.put, *]
  ·obtain rfl := Option.some.inj ho
   have e26 : X 26 = _ := hI 26 (by kernel_rfl) (by kernel_rfl)
   have hx : Ext W w' := hph
   have q := (H.out.ext hx).c2
   unfold wpOp
   simp only [ho]
   rw [if_pos (by rfl)]
   left
   rw [frame37]
   go_simp
   refine metK (hK.out ((.map (some bm))) _ (Below.refl _ _) (fun d hd => by cases hd; exact rfl)) ?_
   simp [frame37, Act.put, *]
  ·obtain rfl := Option.some.inj ho
   have e9 : X 9 = (.pointer (some ⟨ba, 0, none⟩)) := hF 9 (by omega) (by kernel_rfl)
   have hx : Ext W w' := hph
   obtain ⟨q1, q2⟩ := HA.out w' hx
   unfold wpOp
   simp only [ho]
   rw [if_pos (by rfl)]
   left
   rw [frame37]
   go_simp
   refine metK (hK.out ((.agg #[.int .i64 pr, .int .i64 ve])) _ (Below.refl _ _) (fun d hd => by cases hd; exact rfl)) ?_
   simp [frame37, Act.put, *]
  ·obtain rfl := Option.some.inj ho
   have e27 : X 27 = _ := hI 27 (by kernel_rfl) (by kernel_rfl)
   have e28 : X 28 = _ := hI 28 (by kernel_rfl) (by kernel_rfl)
   have hx : Ext W w' := hph
   have q := HLK.out w' hx
   unfold wpOp
   simp only [ho]
   rw [if_pos (by rfl)]
   left
   rw [frame37]
   go_simp
   refine metK (hK.out ((.int .i64 S)) _ (Below.refl _ _) (fun d hd => by cases hd; exact rfl)) ?_
   simp [frame37, Act.put, *]
  ·obtain rfl := Option.some.inj ho
   have e29 : X 29 = _ := hI 29 (by kernel_rfl) (by kernel_rfl)
   have q := HR.out
   unfold wpOp
   simp only [ho]
   rw [if_pos (by rfl)]
   left
   rw [frame37]
   go_simp
   refine metK (hK.out ((.bool r)) _ (Below.refl _ _) (fun d hd => by cases hd; exact rfl)) ?_
   simp [frame37, Act.put, *]
  ·obtain rfl := Option.some.inj ho
   have e30 : X 30 = _ := hI 30 (by kernel_rfl) (by kernel_rfl)
   unfold wpOp
   simp only [ho]
   rw [if_pos (by rfl)]
   left
   rw [frame37]
   go_simp
   refine metK (hK.out ((.bool r)) _ (Below.refl _ _) (fun d hd => by cases hd; exact rfl)) ?_
   simp [frame37, Act.put, *]
 ·intro i o ho hmi vs X w' hqi hql hph hX hI hF K hK
  rcases vs with _
  ·simp at hql <;> omega
 ·intro vs X w' hlen hph hX hI
  have e23 : X 23 = _ := hI 23 (by omega) (by kernel_rfl) (by kernel_rfl)
  have e24 : X 24 = _ := hI 24 (by omega) (by kernel_rfl) (by kernel_rfl)
  have e25 : X 25 = _ := hI 25 (by omega) (by kernel_rfl) (by kernel_rfl)
  have e26 : X 26 = _ := hI 26 (by omega) (by kernel_rfl) (by kernel_rfl)
  have e27 : X 27 = _ := hI 27 (by omega) (by kernel_rfl) (by kernel_rfl)
  have e28 : X 28 = _ := hI 28 (by omega) (by kernel_rfl) (by kernel_rfl)
  have e29 : X 29 = _ := hI 29 (by omega) (by kernel_rfl) (by kernel_rfl)
  have e30 : X 30 = _ := hI 30 (by omega) (by kernel_rfl) (by kernel_rfl)
  rcases vs with _ | ⟨vz, vs⟩
  rotate_left
  ·simp at hlen
  clear hX hI hlen
  simp only [overF, List.foldl_cons, List.foldl_nil, List.setIfInBounds_toArray, List.set_cons_succ, List.set_cons_zero, e23, e24, e25, e26, e27, e28, e29, e30]
  have hx9 : Ext W w' := hph
  clear hph e23 e24 e25 e26 e27 e28 e29 e30
  generalize w' = W2 at *
  have E2 := hide hx9
  clear hx9
  cases r with
  | true =>
   have hs : sayE pl pr ve = 5 := by
    unfold sayE
    rw [if_neg (by rw [HIP.out]; decide), if_neg (by rw [HWM.out]; decide), if_pos (by rw [HS0.out]; simpa using HR.out)]
   have HS := hide hs
   clear hs
   go_wp2
   go_ret
   exact ⟨by rw [HS.out]; rfl, .inl ⟨by rw [HS.out]; decide, E1.out.trans E2.out⟩⟩
  | false =>
   have hs : sayE pl pr ve = 0 := by
    unfold sayE
    rw [if_neg (by rw [HIP.out]; decide), if_neg (by rw [HWM.out]; decide), if_neg (by rw [HS0.out]; simpa using HR.out)]
   have HS := hide hs
   clear hs
   go_upto_region 8 with (fail)
   refine wp_region_rw 37 [6] [31, 32, 33, 34, 35, 36] (PhSay W2 bm pl ⟨(pr, ve), HI.out⟩ x N) (fun (t : Nat) (wI : World) (v : Value) => match t with | 31 => v = (.pointer (some ⟨p, 0, none⟩)) | 32 => v = (.pointer (some ⟨p, 0, none⟩)) | 33 => v = (.pointer (some ⟨p, 2, none⟩)) | 34 => v = (.map (some bm)) | 35 => v = (.agg #[.int .i64 pr, .int .i64 ve]) | 36 => v = (.int .i64 x) | _ => True) (fun _ _ => True) (by kernel_rfl) rfl (by kernel_rfl) (by kernel_rfl) (by kernel_rfl) (by kernel_rfl) ?_ ?_ ?_ ?_ ?_ ?_ ?_
   ·intro w' w'' h
    trivial
   ·intro t w' w'' v hR hv
    exact hv
   ·intro vs w' w'' h e
    exact h.keep e
   ·exact (Below.refl _ _).drew
   ·intro i o ho hmi vs X w' hpk hph hX hI hF K hK
    have hin : i < 7 := (Array.getElem?_eq_some_iff.1 ho).1
    have hi : i = 0 ∨ i = 1 ∨ i = 2 ∨ i = 3 ∨ i = 4 ∨ i = 5 ∨ i = 6 := by omega
    rcases hi with rfl | rfl | rfl | rfl | rfl | rfl | rfl
    ·obtain rfl := Option.some.inj ho
     have e0 : X 0 = (.pointer (some ⟨p, 0, none⟩)) := hF 0 (by omega) (by kernel_rfl)
     unfold wpOp
     simp only [ho]
     rw [if_pos (by rfl)]
     left
     rw [frame37]
     go_simp
     refine metK (hK.out ((.pointer (some ⟨p, 0, none⟩))) _ (Below.refl _ _) (fun d hd => by cases hd; exact rfl)) ?_
     simp [frame37, Act.put, *]
    ·obtain rfl := Option.some.inj ho
     have e31 : X 31 = _ := hI 31 (by kernel_rfl) (by kernel_rfl)
     unfold wpOp
     simp only [ho]
     rw [if_pos (by rfl)]
     left
     rw [frame37]
     go_simp
     refine metK (hK.out ((.pointer (some ⟨p, 0, none⟩))) _ (Below.refl _ _) (fun d hd => by cases hd; exact rfl)) ?_
     simp [frame37, Act.put, *]
    ·obtain rfl := Option.some.inj ho
     have e32 : X 32 = _ := hI 32 (by kernel_rfl) (by kernel_rfl)
     unfold wpOp
     simp only [ho]
     rw [if_pos (by rfl)]
     left
     rw [frame37]
     go_simp
     refine metK (hK.out ((.pointer (some ⟨p, 2, none⟩))) _ (Below.refl _ _) (fun d hd => by cases hd; exact rfl)) ?_
     simp [frame37, Act.put, *]
    ·obtain rfl := Option.some.inj ho
     have e33 : X 33 = _ := hI 33 (by kernel_rfl) (by kernel_rfl)
     have hx := hph.x ((hpk 0 (by decide)).2 (by kernel_rfl))
     have q := ((H.out.ext E2.out).ext hx).c2
     unfold wpOp
     simp only [ho]
     rw [if_pos (by rfl)]
     left
     rw [frame37]
     go_simp
     refine metK (hK.out ((.map (some bm))) _ (Below.refl _ _) (fun d hd => by cases hd; exact rfl)) ?_
     simp [frame37, Act.put, *]
    ·obtain rfl := Option.some.inj ho
     have e9 : X 9 = (.pointer (some ⟨ba, 0, none⟩)) := hF 9 (by omega) (by kernel_rfl)
     have hx := hph.x ((hpk 0 (by decide)).2 (by kernel_rfl))
     obtain ⟨q1, q2⟩ := HA.out w' (E2.out.trans hx)
     unfold wpOp
     simp only [ho]
     rw [if_pos (by rfl)]
     left
     rw [frame37]
     go_simp
     refine metK (hK.out ((.agg #[.int .i64 pr, .int .i64 ve])) _ (Below.refl _ _) (fun d hd => by cases hd; exact rfl)) ?_
     simp [frame37, Act.put, *]
    ·obtain rfl := Option.some.inj ho
     have e3 : X 3 = (.int .i64 x) := hF 3 (by omega) (by kernel_rfl)
     unfold wpOp
     simp only [ho]
     rw [if_pos (by rfl)]
     left
     rw [frame37]
     go_simp
     refine metK (hK.out ((.int .i64 x)) _ (Below.refl _ _) (fun d hd => by cases hd; exact rfl)) ?_
     simp [frame37, Act.put, *]
    ·exact absurd hmi (by decide)
   ·intro i o ho hmi vs X w' hqi hql hph hX hI hF K hK
    rcases vs with _ | ⟨v0, _⟩
    ·obtain rfl : 6 = i := hqi
     obtain rfl := Option.some.inj ho
     have e34 : X 34 = _ := hI 34 (by kernel_rfl) (by kernel_rfl)
     have e35 : X 35 = _ := hI 35 (by kernel_rfl) (by kernel_rfl)
     have e36 : X 36 = _ := hI 36 (by kernel_rfl) (by kernel_rfl)
     have hx : Ext W2 w' := hph
     obtain ⟨n, hn, hs⟩ := ((H.out.ext E2.out).ext hx).sm
     unfold wpOp
     simp only [ho]
     rw [if_pos (by rfl)]
     left
     rw [frame37]
     refine wp_mv_put (.tmp 34) (.tmp 35) (.tmp 36) 112 rfl hs mkA_inj keyedA Tryz.underlying112 (by have := HN.out; unfold maxLen; omega) (by simp [Act.eval, *]) (.agg #[.int .i64 pr, .int .i64 ve]) (.int .i64 x) (by simp [Act.eval, *]) (by simp [Act.eval, *]) (y := ⟨(pr, ve), HI.out⟩) (mkA_key ⟨(pr, ve), HI.out⟩) (fun w9 hm9 ht9 => ?_)
     refine metK (hK.out undef _ ⟨w', w9, n, hx, hn, ht9, hm9, Below.refl _ _⟩ trivial) ?_
     simp [frame37, Act.put, *]
    ·simp at hql <;> omega
   ·intro vs X w' hlen hph hX hI
    have e31 : X 31 = _ := hI 31 (by omega) (by kernel_rfl) (by kernel_rfl)
    have e32 : X 32 = _ := hI 32 (by omega) (by kernel_rfl) (by kernel_rfl)
    have e33 : X 33 = _ := hI 33 (by omega) (by kernel_rfl) (by kernel_rfl)
    have e34 : X 34 = _ := hI 34 (by omega) (by kernel_rfl) (by kernel_rfl)
    have e35 : X 35 = _ := hI 35 (by omega) (by kernel_rfl) (by kernel_rfl)
    have e36 : X 36 = _ := hI 36 (by omega) (by kernel_rfl) (by kernel_rfl)
    rcases vs with _ | ⟨v0, _ | ⟨vz, vs⟩⟩
    ·simp at hlen
    rotate_left
    ·simp at hlen
    clear hX hI hlen
    simp only [overF, List.foldl_cons, List.foldl_nil, List.setIfInBounds_toArray, List.set_cons_succ, List.set_cons_zero, e31, e32, e33, e34, e35, e36]
    obtain ⟨w8, w9, n, E8, hn, ht, hm, E9⟩ := hph
    have h8 := (H.out.ext E2.out).ext E8
    have hk := turned_keeps ht
    obtain ⟨n8, -, hs8⟩ := h8.sm
    have hofm : OfM w8 (fun g => g = bm) := hs8.ofM
    have hp9 := cells_keepM hk hofm h8.box
    have hcongr : ∀ z : Keyd, (if z = ⟨(pr, ve), HI.out⟩ then some (.int .i64 x) else saidF pl z) = saidF (sayP pl pr ve x) z := fun z => by
     unfold saidF sayP
     by_cases hz : z = ⟨(pr, ve), HI.out⟩
     ·subst hz
      simp [HX0.out]
     ·have hz1 : z.1 ≠ (pr, ve) := fun e => hz (Subtype.ext e)
      simp [hz, hz1]
    have hnew : PlaneIs B w' p bm vv (N + 1) (sayP pl pr ve x) := by
     refine ⟨h8.hp, h8.hm, (E9.block p (Array.getElem?_eq_some_iff.1 hp9).1).trans hp9, owns_ext (owns_keepM h8.row hk hofm) E9, ⟨n + 1, by omega, (hm.congr hcongr).ext E9⟩, fun i hi b hb => ?_⟩
     obtain ⟨g1, cs, f, g2⟩ := h8.ver i hi b hb
     have g3 := cells_keepM hk hofm g2
     have g4 := (E9.block b (Array.getElem?_eq_some_iff.1 g3).1).trans g3
     refine ⟨?_, cs, f, g4⟩
     rw [← g1]
     exact World.cell?_of_block (w := w8) (a := ⟨b, 0, none⟩) (g4.trans g2.symm)
    have HNW := hide hnew
    have HKP := hide (show Keeps (fun q => q = bm) w w' from ((Keeps.of_ext ((E1.out.trans E2.out).trans E8)).trans hk).trans (Keeps.of_ext E9))
    clear h8 hk hp9 hnew hs8 hofm hcongr ht hm E8 E9 e31 e32 e33 e34 e35 e36
    go_wp2
    go_ret
    exact ⟨by rw [HS.out]; rfl, .inr ⟨HS.out, HKP.out, HNW.out⟩⟩
end Go.Proofs.YtkhebanpplokdaaGreatDoor
namespace Go.Proofs.YtkhebanpplokdaaGreatDoor
open Go.ChangeShapes Go.WideShapes Go.ChangeAt Go.RowKit Go.Lib Go.Shelf Go.Maps
theorem sayE_was {pl : PlD} {pr v : Int} (h : sayE pl pr v = 0) : 1 ≤ v ∧ v ≤ (pl.V.length : Int) := by
 unfold sayE at h
 split at h
 ·cases h
 ·split at h
  ·cases h
  ·rename_i h2
   unfold wasM at h2
   have h3 : (decide (1 ≤ v) && decide (v ≤ (pl.V.length : Int))) = true := by
    cases hb : (decide (1 ≤ v) && decide (v ≤ (pl.V.length : Int))) with
    | true => rfl
    | false => exact absurd hb h2
   simpa using h3
set_option maxRecDepth 100000 in
set_option maxHeartbeats 4000000 in
theorem ack_any {B : Nat} {w : World} {p bm : Nat} {vv : Value} {N : Nat} {pl : PlD} (h : PlaneIs B w p bm vv N pl) (pr v : Int) (hI : I64 pr ∧ I64 v) (hN : N < 1000000) (hak : ∀ m ∈ pl.V, 0 ≤ m.acks ∧ m.acks ≤ 1000000) :
  Calls Tryz.prog 20 #[.pointer (some ⟨p, 0, none⟩), .int .i64 pr, .int .i64 v] w fun e w' => e = .returned (.int .i64 (sayE pl pr v)) ∧ ((sayE pl pr v ≠ 0 ∧ Ext w w') ∨ (sayE pl pr v = 0 ∧ Keeps (fun q => q = bm ∨ vv.ownBlock = some q) w w' ∧ PlaneIs B w' p bm vv (N + 1) (ackP pl pr v))) := by
 have HSY := hide (say_any h pr v 1 hI (by decide) hN)
 have HAK := hide hak
 clear h hI hN hak
 go_enter Tryz.func20, Tryz.ntmps20
 go_wp2_with fail
 refine HSY.out.mono ?_
 rintro e w2 ⟨rfl, ⟨hne, E2⟩ | ⟨heq, hk, h2⟩⟩
 ·obtain ⟨z, hz⟩ : ∃ z, sayE pl pr v = z := ⟨_, rfl⟩
  rw [hz] at hne ⊢
  have hb : (z == 0) = false := by simpa using hne
  have HE := hide E2
  have HNE := hide hne
  have HZ := hide hz
  clear E2 hne hz HSY
  go_wp2
  go_ret
  have e := HZ.out
  subst e
  exact ⟨rfl, .inl ⟨HNE.out, HE.out⟩⟩
 ·obtain ⟨hv1, hv2⟩ := sayE_was heq
  obtain ⟨m, hm⟩ : ∃ m : Nat, v = (m : Int) + 1 := ⟨v.toNat - 1, by omega⟩
  subst hm
  have hml : m < pl.V.length := by omega
  have hr := h2.row
  have hVe : (sayP pl pr ((m : Int) + 1) 1).V = pl.V := rfl
  rw [hVe] at hr
  have h63 := owns_len hr
  obtain ⟨g, c, hvv, -⟩ := owns_form hr (by omega)
  have c1 := h2.c1
  rw [hvv] at c1 hr
  have d1 := cell_row encM_len hr m hml 1 _ rfl
  obtain ⟨d1, z1⟩ := d1
  have hset := owns_set1 encM_len hr m 1 hml (by decide) (.int .i64 (pl.V[m].acks + 1)) (upM pl.V[m]) rfl
  have hks := Keeps.of_set (X := fun q => q = g) w2 g (m * 3 + 1) (.int .i64 (pl.V[m].acks + 1)) rfl
  obtain ⟨cs, fz, hgk⟩ := ownsRow_kind hr g rfl
  have hpg : p ≠ g := fun e => by
   subst e
   rw [h2.box] at hgk
   cases hgk
  have hbg : bm ≠ g := fun e => by
   obtain ⟨n, -, hs⟩ := h2.sm
   obtain ⟨es, cc, hb⟩ := hs.block
   rw [e, hgk] at hb
   cases hb
  have hav := HAK.out _ (List.getElem_mem hml)
  have hnew : PlaneIs B (w2.setCell ⟨g, m * 3 + 1, none⟩ (.int .i64 (pl.V[m].acks + 1))) p bm vv (N + 1) (ackP pl pr ((m : Int) + 1)) := by
   have hV : (ackP pl pr ((m : Int) + 1)).V = pl.V.set m (upM pl.V[m]) := by
    have e1 : ((m : Int) + 1).toNat - 1 = m := by omega
    unfold ackP
    simp only [e1]
    rw [List.getD_eq_getElem?_getD, List.getElem?_eq_getElem hml]
    rfl
   refine ⟨h2.hp, h2.hm, (hks.block p h2.lt hpg).trans h2.box, ?_, ?_, fun i hi b hb => ?_⟩
   ·rw [hV, hvv, List.length_set]
    exact hset
   ·obtain ⟨n, hn, hs⟩ := h2.sm
    exact ⟨n, hn, (hs.setCell (a := ⟨g, m * 3 + 1, none⟩) hbg _)⟩
   ·have hi2 : i < pl.V.length := by rw [hV, List.length_set] at hi; exact hi
    have hb2 : pl.V[i].b = some b := by
     rw [← hb]
     simp only [hV, List.getElem_set]
     split
     ·rename_i e
      subst e
      rfl
     ·rfl
    obtain ⟨g1, cs2, f2, g2⟩ := h2.ver i hi2 b hb2
    have hne : b ≠ g := fun e => by
     rw [e, hgk] at g2
     cases g2
    have g3 := (hks.block b (Array.getElem?_eq_some_iff.1 g2).1 hne).trans g2
    refine ⟨?_, cs2, f2, g3⟩
    rw [← g1]
    exact World.cell?_of_block (w := w2) (a := ⟨b, 0, none⟩) (g3.trans g2.symm)
  have hkk : Keeps (fun q => q = bm ∨ vv.ownBlock = some q) w (w2.setCell ⟨g, m * 3 + 1, none⟩ (.int .i64 (pl.V[m].acks + 1))) := (hk.mono fun q h => .inl h).trans (hks.mono fun q h => .inr (by rw [hvv, h]; rfl))
  have HNW := hide hnew
  have HKK := hide hkk
  have HEQ := hide heq
  have hw1 : IntKind.i64.wrap (((m : Int) + 1) - 1) = (m : Int) := by rw [IntKind.wrap_i64]; omega
  have hw2 : IntKind.i64.wrap (pl.V[m].acks + 1) = pl.V[m].acks + 1 := by rw [IntKind.wrap_i64]; omega
  have hmz : (m : Int) < pl.V.length := by omega
  have hm0 : (0 : Int) ≤ m := by omega
  rw [heq]
  obtain ⟨vz, hvz⟩ : ∃ vz : Int, (m : Int) + 1 = vz := ⟨_, rfl⟩
  rw [hvz] at hw1 ⊢
  have HVZ := hide hvz
  generalize pl.V[m].acks = x at *
  clear hnew hkk heq hv1 hv2 hr hVe h63 hvv hset hks hgk hpg hbg hav hk h2 HSY hvz
  go_wp2
  go_ret
  have e := HVZ.out
  subst e
  exact ⟨by rw [HEQ.out]; rfl, .inr ⟨HEQ.out, HKK.out, HNW.out⟩⟩
theorem nack_any {B : Nat} {w : World} {p bm : Nat} {vv : Value} {N : Nat} {pl : PlD} (h : PlaneIs B w p bm vv N pl) (pr v : Int) (hI : I64 pr ∧ I64 v) (hN : N < 1000000) :
  Calls Tryz.prog 46 #[.pointer (some ⟨p, 0, none⟩), .int .i64 pr, .int .i64 v] w fun e w' => e = .returned (.int .i64 (sayE pl pr v)) ∧ ((sayE pl pr v ≠ 0 ∧ Ext w w') ∨ (sayE pl pr v = 0 ∧ Keeps (fun q => q = bm) w w' ∧ PlaneIs B w' p bm vv (N + 1) (sayP pl pr v 2))) := by
 have HSY := hide (say_any h pr v 2 hI (by decide) hN)
 clear h hI hN
 go_enter Tryz.func46, Tryz.ntmps46
 go_wp2_with fail
 refine HSY.out.mono ?_
 rintro e w2 ⟨rfl, hh⟩
 have HH := hide hh
 clear hh HSY
 go_wp2
 go_ret
 exact ⟨rfl, HH.out⟩
end Go.Proofs.YtkhebanpplokdaaGreatDoor
namespace Go.Proofs.YtkhebanpplokdaaGreatDoor
open Go.ChangeShapes Go.WideShapes Go.ChangeAt Go.RowKit Go.Lib Go.Shelf Go.Maps
theorem makeMap_none {P : Program} {t k e : TypeId} (hu : P.underlying t = some (.map k e)) (w : World) : (Instr.makeMap t none).run P w = .ok (.map (some w.heap.size)) (w.alloc (.map #[] 0)) := by
 simp [Instr.makeMap, run_underlying hu, Result.andThen]
set_option maxRecDepth 100000 in
set_option maxHeartbeats 4000000 in
theorem planeNew_any (k : Int) (w : World) (hk : 0 ≤ k) :
  Calls Tryz.prog 13 #[.int .i64 k] w fun e w' => ∃ p bm, e = .returned (.pointer (some ⟨p, 0, none⟩)) ∧ PlaneIs w.heap.size w' p bm (.slice none 0 0) 0 ⟨k, [], fun _ => 0⟩ ∧ Ext w w' := by
 have hmx : max k 0 = k := by omega
 have hmm := makeMap_none (P := Tryz.prog) Tryz.underlying112 w
 have hnl : ¬ k < 0 := by omega
 have hx : Ext w ((w.alloc (.map #[] 0)).alloc (.cells #[.int .i64 k, .slice none 0 0, .map (some w.heap.size)] 115)) := ((Below.refl _ _).alloc (Nat.le_refl _) _).alloc (Nat.le_of_lt (by simp)) _
 have hb1 := heap_alloc2_new w (.map #[] 0) (.cells #[.int .i64 k, .slice none 0 0, .map (some w.heap.size)] 115)
 have hb0 : ((w.alloc (.map #[] 0)).alloc (.cells #[.int .i64 k, .slice none 0 0, .map (some w.heap.size)] 115)).heap[w.heap.size]? = some (.map #[] 0) := (Below.heap_alloc _ _ _ (by simp)).trans (heap_alloc_new w _)
 have HX := hide hx
 have HB1 := hide hb1
 have HB0 := hide hb0
 clear hx hb1 hb0
 go_enter Tryz.func13, Tryz.ntmps13
 go_wp2
 go_ret
 have hpl : PlaneIs w.heap.size ((w.alloc (.map #[] 0)).alloc (.cells #[.int .i64 k, .slice none 0 0, .map (some w.heap.size)] 115)) (w.heap.size + 1) w.heap.size (.slice none 0 0) 0 ⟨k, [], fun _ => 0⟩ :=
  ⟨by omega, Nat.le_refl _, HB1.out, World.ownsRow_nil _ _ _ _, ⟨0, Nat.le_refl _, (mapV_empty _ _ HB0.out).congr fun x => by simp [saidF]⟩, fun i hi => absurd hi (by simp)⟩
 first
 | exact ⟨w.heap.size + 1, w.heap.size, rfl, hpl, HX.out⟩
 | exact ⟨w.heap.size + 1, rfl, ⟨w.heap.size, hpl⟩, HX.out⟩
 | exact ⟨w.heap.size + 1, by simp, ⟨w.heap.size, hpl⟩, HX.out⟩
end Go.Proofs.YtkhebanpplokdaaGreatDoor
