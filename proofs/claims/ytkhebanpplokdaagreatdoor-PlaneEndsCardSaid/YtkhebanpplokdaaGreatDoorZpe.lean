/- Merged texts (PnE, PnH). -/
import Derived.Test.YtkhebanpplokdaaGreatDoorZpb
import Derived.Test.YtkhebanpplokdaaGreatDoorZrw
namespace Go.Proofs.YtkhebanpplokdaaGreatDoor
open Go.ChangeShapes Go.WideShapes Go.ChangeAt Go.RowKit Go.Lib Go.Shelf Go.Maps
theorem saidF_get (pl : PlD) (x : Keyd) : (saidF pl x).getD (.int .i64 0) = .int .i64 (pl.said x.1) := by
 unfold saidF
 by_cases h : pl.said x.1 = 0
 ·rw [if_pos h, h]
  rfl
 ·rw [if_neg h]
  rfl
theorem zeroWord (w : World) : (zeroValue 129).run Tryz.prog w = .ok (.int .i64 0) w := by kernel_rfl
theorem PlaneIs.look {B : Nat} {w : World} {p bm : Nat} {vv : Value} {N : Nat} {pl : PlD} (h : PlaneIs B w p bm vv N pl) (a b : Int) (ha : I64 a) (hb : I64 b) :
  (Instr.lookup 112 (.map (some bm)) (.agg #[.int .i64 a, .int .i64 b]) false).run Tryz.prog w = .ok (.int .i64 (pl.said (a, b))) w := by
 obtain ⟨n, -, hs⟩ := h.sm
 have := hs.look keyedA Tryz.underlying112 (zeroWord w) (mkA_key ⟨(a, b), ha, hb⟩)
 rw [saidF_get] at this
 exact this
set_option maxRecDepth 100000 in
theorem frame14 (x : Nat → Value) : frameOf 14 x = #[x 0, x 1, x 2, x 3, x 4, x 5, x 6, x 7, x 8, x 9, x 10, x 11, x 12, x 13] := rfl
set_option maxRecDepth 100000 in
theorem frame37 (x : Nat → Value) : frameOf 37 x = #[x 0, x 1, x 2, x 3, x 4, x 5, x 6, x 7, x 8, x 9, x 10, x 11, x 12, x 13, x 14, x 15, x 16, x 17, x 18, x 19, x 20, x 21, x 22, x 23, x 24, x 25, x 26, x 27, x 28, x 29, x 30, x 31, x 32, x 33, x 34, x 35, x 36] := rfl
set_option maxRecDepth 100000 in
set_option maxHeartbeats 4000000 in
theorem next1_any {B : Nat} {w : World} {p bm : Nat} {vv : Value} {N : Nat} {pl : PlD} (h : PlaneIs B w p bm vv N pl) (bx by_ : Nat) (pr : Int) (hpr : I64 pr) (cx : w.cell? ⟨bx, 0, none⟩ = some (.pointer (some ⟨p, 0, none⟩))) (cy : w.cell? ⟨by_, 0, none⟩ = some (.int .i64 pr)) (ve : Nat) (hv : I64 (ve : Int)) :
  Calls Tryz.prog 57 #[.int .i64 ve, .pointer (some ⟨bx, 0, none⟩), .pointer (some ⟨by_, 0, none⟩)] w fun e w' => e = .returned (.bool (decide (pl.said (pr, (ve : Int)) = 0))) ∧ Ext w w' := by
 have H := hide h
 have CX := hide cx
 have CY := hide cy
 have HLK := hide (show ∀ X, Ext w X → (Instr.lookup 112 (.map (some bm)) (.agg #[.int .i64 pr, .int .i64 (ve : Int)]) false).run Tryz.prog X = .ok (.int .i64 (pl.said (pr, (ve : Int)))) X from fun X hX => (h.ext hX).look pr ve hpr hv)
 obtain ⟨S, hS⟩ : ∃ S, pl.said (pr, (ve : Int)) = S := ⟨_, rfl⟩
 rw [hS] at HLK ⊢
 obtain ⟨r, hr⟩ : ∃ r, decide (S = 0) = r := ⟨_, rfl⟩
 have HR := hide (show (S == 0) = r from hr)
 rw [hr]
 clear h cx cy hS hr hpr hv
 go_enter Tryz.func57, Tryz.ntmps57
 go_upto_region 1 with (fail)
 refine wp_region_rw 14 [] [4, 5, 6, 7, 8, 9, 10, 11, 12, 13] (fun _ w' => Ext w w') (fun (t : Nat) (wI : World) (v : Value) => match t with | 4 => v = (.bool r) | 5 => v = (.pointer (some ⟨p, 0, none⟩)) | 6 => v = (.pointer (some ⟨p, 0, none⟩)) | 7 => v = (.pointer (some ⟨p, 2, none⟩)) | 8 => v = (.map (some bm)) | 9 => v = (.int .i64 pr) | 10 => v = (.int .i64 (ve : Int)) | 11 => v = (.agg #[.int .i64 pr, .int .i64 (ve : Int)]) | 12 => v = (.int .i64 S) | 13 => v = (.bool r) | _ => True) (fun w' w'' => Ext w' w'') (by kernel_rfl) rfl (by kernel_rfl) (by kernel_rfl) (by kernel_rfl) (by kernel_rfl) ?_ ?_ ?_ ?_ ?_ ?_ ?_
 ·intro w' w'' h
  exact h
 ·intro t w' w'' v hR hv
  exact hv
 ·intro vs w' w'' h e
  exact Ext.trans (show Ext _ w' from h) e
 ·exact (Below.refl _ _).drew
 ·intro i o ho hmi vs X w' hpk hph hX hI hF K hK
  have hin : i < 10 := (Array.getElem?_eq_some_iff.1 ho).1
  have hi : i = 0 ∨ i = 1 ∨ i = 2 ∨ i = 3 ∨ i = 4 ∨ i = 5 ∨ i = 6 ∨ i = 7 ∨ i = 8 ∨ i = 9 := by omega
  rcases hi with rfl | rfl | rfl | rfl | rfl | rfl | rfl | rfl | rfl | rfl
  ·obtain rfl := Option.some.inj ho
   have e1 : X 1 = (.pointer (some ⟨bx, 0, none⟩)) := hF 1 (by omega) (by kernel_rfl)
   have hx : Ext w w' := hph
   have q := (hx.cell (p := ⟨bx, 0, none⟩) (World.block_lt_of_cell? w _ CX.out)).trans CX.out
   unfold wpOp
   simp only [ho]
   rw [if_pos (by rfl)]
   left
   rw [frame14]
   go_simp
   refine metK (hK.out ((.pointer (some ⟨p, 0, none⟩))) _ (Below.refl _ _) (fun d hd => by cases hd; exact rfl)) ?_
   simp [frame14, Act.put, *]
  ·obtain rfl := Option.some.inj ho
   have e5 : X 5 = _ := hI 5 (by kernel_rfl) (by kernel_rfl)
   unfold wpOp
   simp only [ho]
   rw [if_pos (by rfl)]
   left
   rw [frame14]
   go_simp
   refine metK (hK.out ((.pointer (some ⟨p, 0, none⟩))) _ (Below.refl _ _) (fun d hd => by cases hd; exact rfl)) ?_
   simp [frame14, Act.put, *]
  ·obtain rfl := Option.some.inj ho
   have e6 : X 6 = _ := hI 6 (by kernel_rfl) (by kernel_rfl)
   unfold wpOp
   simp only [ho]
   rw [if_pos (by rfl)]
   left
   rw [frame14]
   go_simp
   refine metK (hK.out ((.pointer (some ⟨p, 2, none⟩))) _ (Below.refl _ _) (fun d hd => by cases hd; exact rfl)) ?_
   simp [frame14, Act.put, *]
  ·obtain rfl := Option.some.inj ho
   have e7 : X 7 = _ := hI 7 (by kernel_rfl) (by kernel_rfl)
   have hx : Ext w w' := hph
   have q := (H.out.ext hx).c2
   unfold wpOp
   simp only [ho]
   rw [if_pos (by rfl)]
   left
   rw [frame14]
   go_simp
   refine metK (hK.out ((.map (some bm))) _ (Below.refl _ _) (fun d hd => by cases hd; exact rfl)) ?_
   simp [frame14, Act.put, *]
  ·obtain rfl := Option.some.inj ho
   have e2 : X 2 = (.pointer (some ⟨by_, 0, none⟩)) := hF 2 (by omega) (by kernel_rfl)
   have hx : Ext w w' := hph
   have q := (hx.cell (p := ⟨by_, 0, none⟩) (World.block_lt_of_cell? w _ CY.out)).trans CY.out
   unfold wpOp
   simp only [ho]
   rw [if_pos (by rfl)]
   left
   rw [frame14]
   go_simp
   refine metK (hK.out ((.int .i64 pr)) _ (Below.refl _ _) (fun d hd => by cases hd; exact rfl)) ?_
   simp [frame14, Act.put, *]
  ·obtain rfl := Option.some.inj ho
   have e0 : X 0 = (.int .i64 (ve : Int)) := hF 0 (by omega) (by kernel_rfl)
   unfold wpOp
   simp only [ho]
   rw [if_pos (by rfl)]
   left
   rw [frame14]
   go_simp
   refine metK (hK.out ((.int .i64 (ve : Int))) _ (Below.refl _ _) (fun d hd => by cases hd; exact rfl)) ?_
   simp [frame14, Act.put, *]
  ·obtain rfl := Option.some.inj ho
   have e9 : X 9 = _ := hI 9 (by kernel_rfl) (by kernel_rfl)
   have e10 : X 10 = _ := hI 10 (by kernel_rfl) (by kernel_rfl)
   unfold wpOp
   simp only [ho]
   rw [if_pos (by rfl)]
   left
   rw [frame14]
   go_simp
   refine metK (hK.out ((.agg #[.int .i64 pr, .int .i64 (ve : Int)])) _ (Below.refl _ _) (fun d hd => by cases hd; exact rfl)) ?_
   simp [frame14, Act.put, *]
  ·obtain rfl := Option.some.inj ho
   have e8 : X 8 = _ := hI 8 (by kernel_rfl) (by kernel_rfl)
   have e11 : X 11 = _ := hI 11 (by kernel_rfl) (by kernel_rfl)
   have hx : Ext w w' := hph
   have q := HLK.out w' hx
   unfold wpOp
   simp only [ho]
   rw [if_pos (by rfl)]
   left
   rw [frame14]
   go_simp
   refine metK (hK.out ((.int .i64 S)) _ (Below.refl _ _) (fun d hd => by cases hd; exact rfl)) ?_
   simp [frame14, Act.put, *]
  ·obtain rfl := Option.some.inj ho
   have e12 : X 12 = _ := hI 12 (by kernel_rfl) (by kernel_rfl)
   have q := HR.out
   unfold wpOp
   simp only [ho]
   rw [if_pos (by rfl)]
   left
   rw [frame14]
   go_simp
   refine metK (hK.out ((.bool r)) _ (Below.refl _ _) (fun d hd => by cases hd; exact rfl)) ?_
   simp [frame14, Act.put, *]
  ·obtain rfl := Option.some.inj ho
   have e13 : X 13 = _ := hI 13 (by kernel_rfl) (by kernel_rfl)
   unfold wpOp
   simp only [ho]
   rw [if_pos (by rfl)]
   left
   rw [frame14]
   go_simp
   refine metK (hK.out ((.bool r)) _ (Below.refl _ _) (fun d hd => by cases hd; exact rfl)) ?_
   simp [frame14, Act.put, *]
 ·intro i o ho hmi vs X w' hqi hql hph hX hI hF K hK
  rcases vs with _
  ·simp at hql <;> omega
 ·intro vs X w' hlen hph hX hI
  have e4 : X 4 = _ := hI 4 (by omega) (by kernel_rfl) (by kernel_rfl)
  have e5 : X 5 = _ := hI 5 (by omega) (by kernel_rfl) (by kernel_rfl)
  have e6 : X 6 = _ := hI 6 (by omega) (by kernel_rfl) (by kernel_rfl)
  have e7 : X 7 = _ := hI 7 (by omega) (by kernel_rfl) (by kernel_rfl)
  have e8 : X 8 = _ := hI 8 (by omega) (by kernel_rfl) (by kernel_rfl)
  have e9 : X 9 = _ := hI 9 (by omega) (by kernel_rfl) (by kernel_rfl)
  have e10 : X 10 = _ := hI 10 (by omega) (by kernel_rfl) (by kernel_rfl)
  have e11 : X 11 = _ := hI 11 (by omega) (by kernel_rfl) (by kernel_rfl)
  have e12 : X 12 = _ := hI 12 (by omega) (by kernel_rfl) (by kernel_rfl)
  have e13 : X 13 = _ := hI 13 (by omega) (by kernel_rfl) (by kernel_rfl)
  rcases vs with _ | ⟨vz, vs⟩
  rotate_left
  ·simp at hlen
  clear hX hI hlen
  simp only [overF, List.foldl_cons, List.foldl_nil, List.setIfInBounds_toArray, List.set_cons_succ, List.set_cons_zero, e4, e5, e6, e7, e8, e9, e10, e11, e12, e13]
  have hx9 : Ext w w' := hph
  clear hph e4 e5 e6 e7 e8 e9 e10 e11 e12 e13
  go_wp2
  go_ret
  exact ⟨rfl, hx9⟩
set_option maxRecDepth 100000 in
set_option maxHeartbeats 4000000 in
theorem next2_any {B : Nat} {w : World} {p bm : Nat} {vv : Value} {N : Nat} {pl : PlD} (h : PlaneIs B w p bm vv N pl) (bx by_ : Nat) (pr : Int) (hpr : I64 pr) (cx : w.cell? ⟨bx, 0, none⟩ = some (.pointer (some ⟨p, 0, none⟩))) (cy : w.cell? ⟨by_, 0, none⟩ = some (.int .i64 pr)) (ve : Nat) (hv : I64 (ve : Int)) :
  Calls Tryz.prog 58 #[.int .i64 ve, .pointer (some ⟨bx, 0, none⟩), .pointer (some ⟨by_, 0, none⟩)] w fun e w' => e = .returned (.bool (decide (pl.said (pr, (ve : Int)) = 1))) ∧ Ext w w' := by
 have H := hide h
 have CX := hide cx
 have CY := hide cy
 have HLK := hide (show ∀ X, Ext w X → (Instr.lookup 112 (.map (some bm)) (.agg #[.int .i64 pr, .int .i64 (ve : Int)]) false).run Tryz.prog X = .ok (.int .i64 (pl.said (pr, (ve : Int)))) X from fun X hX => (h.ext hX).look pr ve hpr hv)
 obtain ⟨S, hS⟩ : ∃ S, pl.said (pr, (ve : Int)) = S := ⟨_, rfl⟩
 rw [hS] at HLK ⊢
 obtain ⟨r, hr⟩ : ∃ r, decide (S = 1) = r := ⟨_, rfl⟩
 have HR := hide (show (S == 1) = r from hr)
 rw [hr]
 clear h cx cy hS hr hpr hv
 go_enter Tryz.func58, Tryz.ntmps58
 go_upto_region 1 with (fail)
 refine wp_region_rw 14 [] [4, 5, 6, 7, 8, 9, 10, 11, 12, 13] (fun _ w' => Ext w w') (fun (t : Nat) (wI : World) (v : Value) => match t with | 4 => v = (.bool r) | 5 => v = (.pointer (some ⟨p, 0, none⟩)) | 6 => v = (.pointer (some ⟨p, 0, none⟩)) | 7 => v = (.pointer (some ⟨p, 2, none⟩)) | 8 => v = (.map (some bm)) | 9 => v = (.int .i64 pr) | 10 => v = (.int .i64 (ve : Int)) | 11 => v = (.agg #[.int .i64 pr, .int .i64 (ve : Int)]) | 12 => v = (.int .i64 S) | 13 => v = (.bool r) | _ => True) (fun w' w'' => Ext w' w'') (by kernel_rfl) rfl (by kernel_rfl) (by kernel_rfl) (by kernel_rfl) (by kernel_rfl) ?_ ?_ ?_ ?_ ?_ ?_ ?_
 ·intro w' w'' h
  exact h
 ·intro t w' w'' v hR hv
  exact hv
 ·intro vs w' w'' h e
  exact Ext.trans (show Ext _ w' from h) e
 ·exact (Below.refl _ _).drew
 ·intro i o ho hmi vs X w' hpk hph hX hI hF K hK
  have hin : i < 10 := (Array.getElem?_eq_some_iff.1 ho).1
  have hi : i = 0 ∨ i = 1 ∨ i = 2 ∨ i = 3 ∨ i = 4 ∨ i = 5 ∨ i = 6 ∨ i = 7 ∨ i = 8 ∨ i = 9 := by omega
  rcases hi with rfl | rfl | rfl | rfl | rfl | rfl | rfl | rfl | rfl | rfl
  ·obtain rfl := Option.some.inj ho
   have e1 : X 1 = (.pointer (some ⟨bx, 0, none⟩)) := hF 1 (by omega) (by kernel_rfl)
   have hx : Ext w w' := hph
   have q := (hx.cell (p := ⟨bx, 0, none⟩) (World.block_lt_of_cell? w _ CX.out)).trans CX.out
   unfold wpOp
   simp only [ho]
   rw [if_pos (by rfl)]
   left
   rw [frame14]
   go_simp
   refine metK (hK.out ((.pointer (some ⟨p, 0, none⟩))) _ (Below.refl _ _) (fun d hd => by cases hd; exact rfl)) ?_
   simp [frame14, Act.put, *]
  ·obtain rfl := Option.some.inj ho
   have e5 : X 5 = _ := hI 5 (by kernel_rfl) (by kernel_rfl)
   unfold wpOp
   simp only [ho]
   rw [if_pos (by rfl)]
   left
   rw [frame14]
   go_simp
   refine metK (hK.out ((.pointer (some ⟨p, 0, none⟩))) _ (Below.refl _ _) (fun d hd => by cases hd; exact rfl)) ?_
   simp [frame14, Act.put, *]
  ·obtain rfl := Option.some.inj ho
   have e6 : X 6 = _ := hI 6 (by kernel_rfl) (by kernel_rfl)
   unfold wpOp
   simp only [ho]
   rw [if_pos (by rfl)]
   left
   rw [frame14]
   go_simp
   refine metK (hK.out ((.pointer (some ⟨p, 2, none⟩))) _ (Below.refl _ _) (fun d hd => by cases hd; exact rfl)) ?_
   simp [frame14, Act.put, *]
  ·obtain rfl := Option.some.inj ho
   have e7 : X 7 = _ := hI 7 (by kernel_rfl) (by kernel_rfl)
   have hx : Ext w w' := hph
   have q := (H.out.ext hx).c2
   unfold wpOp
   simp only [ho]
   rw [if_pos (by rfl)]
   left
   rw [frame14]
   go_simp
   refine metK (hK.out ((.map (some bm))) _ (Below.refl _ _) (fun d hd => by cases hd; exact rfl)) ?_
   simp [frame14, Act.put, *]
  ·obtain rfl := Option.some.inj ho
   have e2 : X 2 = (.pointer (some ⟨by_, 0, none⟩)) := hF 2 (by omega) (by kernel_rfl)
   have hx : Ext w w' := hph
   have q := (hx.cell (p := ⟨by_, 0, none⟩) (World.block_lt_of_cell? w _ CY.out)).trans CY.out
   unfold wpOp
   simp only [ho]
   rw [if_pos (by rfl)]
   left
   rw [frame14]
   go_simp
   refine metK (hK.out ((.int .i64 pr)) _ (Below.refl _ _) (fun d hd => by cases hd; exact rfl)) ?_
   simp [frame14, Act.put, *]
  ·obtain rfl := Option.some.inj ho
   have e0 : X 0 = (.int .i64 (ve : Int)) := hF 0 (by omega) (by kernel_rfl)
   unfold wpOp
   simp only [ho]
   rw [if_pos (by rfl)]
   left
   rw [frame14]
   go_simp
   refine metK (hK.out ((.int .i64 (ve : Int))) _ (Below.refl _ _) (fun d hd => by cases hd; exact rfl)) ?_
   simp [frame14, Act.put, *]
  ·obtain rfl := Option.some.inj ho
   have e9 : X 9 = _ := hI 9 (by kernel_rfl) (by kernel_rfl)
   have e10 : X 10 = _ := hI 10 (by kernel_rfl) (by kernel_rfl)
   unfold wpOp
   simp only [ho]
   rw [if_pos (by rfl)]
   left
   rw [frame14]
   go_simp
   refine metK (hK.out ((.agg #[.int .i64 pr, .int .i64 (ve : Int)])) _ (Below.refl _ _) (fun d hd => by cases hd; exact rfl)) ?_
   simp [frame14, Act.put, *]
  ·obtain rfl := Option.some.inj ho
   have e8 : X 8 = _ := hI 8 (by kernel_rfl) (by kernel_rfl)
   have e11 : X 11 = _ := hI 11 (by kernel_rfl) (by kernel_rfl)
   have hx : Ext w w' := hph
   have q := HLK.out w' hx
   unfold wpOp
   simp only [ho]
   rw [if_pos (by rfl)]
   left
   rw [frame14]
   go_simp
   refine metK (hK.out ((.int .i64 S)) _ (Below.refl _ _) (fun d hd => by cases hd; exact rfl)) ?_
   simp [frame14, Act.put, *]
  ·obtain rfl := Option.some.inj ho
   have e12 : X 12 = _ := hI 12 (by kernel_rfl) (by kernel_rfl)
   have q := HR.out
   unfold wpOp
   simp only [ho]
   rw [if_pos (by rfl)]
   left
   rw [frame14]
   go_simp
   refine metK (hK.out ((.bool r)) _ (Below.refl _ _) (fun d hd => by cases hd; exact rfl)) ?_
   simp [frame14, Act.put, *]
  ·obtain rfl := Option.some.inj ho
   have e13 : X 13 = _ := hI 13 (by kernel_rfl) (by kernel_rfl)
   unfold wpOp
   simp only [ho]
   rw [if_pos (by rfl)]
   left
   rw [frame14]
   go_simp
   refine metK (hK.out ((.bool r)) _ (Below.refl _ _) (fun d hd => by cases hd; exact rfl)) ?_
   simp [frame14, Act.put, *]
 ·intro i o ho hmi vs X w' hqi hql hph hX hI hF K hK
  rcases vs with _
  ·simp at hql <;> omega
 ·intro vs X w' hlen hph hX hI
  have e4 : X 4 = _ := hI 4 (by omega) (by kernel_rfl) (by kernel_rfl)
  have e5 : X 5 = _ := hI 5 (by omega) (by kernel_rfl) (by kernel_rfl)
  have e6 : X 6 = _ := hI 6 (by omega) (by kernel_rfl) (by kernel_rfl)
  have e7 : X 7 = _ := hI 7 (by omega) (by kernel_rfl) (by kernel_rfl)
  have e8 : X 8 = _ := hI 8 (by omega) (by kernel_rfl) (by kernel_rfl)
  have e9 : X 9 = _ := hI 9 (by omega) (by kernel_rfl) (by kernel_rfl)
  have e10 : X 10 = _ := hI 10 (by omega) (by kernel_rfl) (by kernel_rfl)
  have e11 : X 11 = _ := hI 11 (by omega) (by kernel_rfl) (by kernel_rfl)
  have e12 : X 12 = _ := hI 12 (by omega) (by kernel_rfl) (by kernel_rfl)
  have e13 : X 13 = _ := hI 13 (by omega) (by kernel_rfl) (by kernel_rfl)
  rcases vs with _ | ⟨vz, vs⟩
  rotate_left
  ·simp at hlen
  clear hX hI hlen
  simp only [overF, List.foldl_cons, List.foldl_nil, List.setIfInBounds_toArray, List.set_cons_succ, List.set_cons_zero, e4, e5, e6, e7, e8, e9, e10, e11, e12, e13]
  have hx9 : Ext w w' := hph
  clear hph e4 e5 e6 e7 e8 e9 e10 e11 e12 e13
  go_wp2
  go_ret
  exact ⟨rfl, hx9⟩
end Go.Proofs.YtkhebanpplokdaaGreatDoor
namespace Go.Proofs.YtkhebanpplokdaaGreatDoor
open Go.ChangeShapes Go.WideShapes Go.ChangeAt Go.RowKit Go.Lib Go.Shelf Go.Maps
/-- the block of a version that was not dropped -/
def plSnap (pl : PlD) (v : Int) : Option Nat := if wasM pl v = true then (pl.V.getD (v.toNat - 1) made0).b else none
def nextS (pl : PlD) (pr : Int) : Option Nat := if isPr pl pr = false then none else if nextN pl pr ≤ hasN pl pr then none else plSnap pl (nextN pl pr : Nat)
set_option maxRecDepth 100000 in
set_option maxHeartbeats 4000000 in
theorem snapP_any {B : Nat} {w : World} {p bm : Nat} {vv : Value} {N : Nat} {pl : PlD} (h : PlaneIs B w p bm vv N pl) (ve : Int) :
  Calls Tryz.prog 59 #[.pointer (some ⟨p, 0, none⟩), .int .i64 ve] w fun e w' => e = .returned (.tuple #[ptrO (plSnap pl ve), .bool (plSnap pl ve).isSome]) ∧ w = w' := by
 have HW := hide (wasMade_any h ve)
 obtain ⟨wm, hwm⟩ : ∃ b, wasM pl ve = b := ⟨_, rfl⟩
 rw [hwm] at HW
 cases wm with
 | false =>
  have hs : plSnap pl ve = none := by unfold plSnap; rw [if_neg (by rw [hwm]; decide)]
  rw [hs]
  clear hs hwm h
  go_enter Tryz.func59, Tryz.ntmps59
  go_wp2_with fail
  refine HW.out.mono ?_
  rintro e w2 ⟨rfl, rfl⟩
  go_wp2
  go_ret2
  exact ⟨rfl, rfl⟩
 | true =>
  have h12 : 1 ≤ ve ∧ ve ≤ (pl.V.length : Int) := by
   unfold wasM at hwm
   simpa using hwm
  obtain ⟨m, hm⟩ : ∃ m : Nat, ve = (m : Int) + 1 := ⟨ve.toNat - 1, by omega⟩
  subst hm
  have hml : m < pl.V.length := by omega
  have hs : plSnap pl ((m : Int) + 1) = pl.V[m].b := by
   unfold plSnap
   rw [if_pos hwm]
   have e1 : ((m : Int) + 1).toNat - 1 = m := by omega
   rw [e1, List.getD_eq_getElem?_getD, List.getElem?_eq_getElem hml]
   rfl
  have c1 := h.c1
  have hr := h.row
  have h63 := owns_len hr
  obtain ⟨a, c, hv⟩ := owns_shape hr
  rw [hv] at c1 hr
  obtain ⟨b, off, rfl, hbb, d1, d2, d3⟩ := mads_at (Sl.of_own' encM_len hr) m hml
  have hw1 : IntKind.i64.wrap (((m : Int) + 1) - 1) = (m : Int) := by rw [IntKind.wrap_i64]; omega
  have hmz : (m : Int) < pl.V.length := by omega
  have hm0 : (0 : Int) ≤ m := by omega
  rw [hs]
  obtain ⟨sb, hsb⟩ : ∃ sb, pl.V[m].b = sb := ⟨_, rfl⟩
  rw [hsb] at d1 ⊢
  clear h hr hv d2 d3 h63 hs hwm h12 hml hsb
  generalize pl.V.length = n at *
  obtain ⟨vz, hvz⟩ : ∃ vz : Int, (m : Int) + 1 = vz := ⟨_, rfl⟩
  rw [hvz] at hw1 HW ⊢
  clear hvz
  cases sb with
  | none =>
   have d1' : w.cell? ⟨b, off + m * 3, none⟩ = some (.pointer none) := d1
   clear d1
   go_enter Tryz.func59, Tryz.ntmps59
   go_wp2_with fail
   refine HW.out.mono ?_
   rintro e w2 ⟨rfl, rfl⟩
   go_wp2
   go_ret2
   exact ⟨rfl, rfl⟩
  | some s =>
   have d1' : w.cell? ⟨b, off + m * 3, none⟩ = some (.pointer (some ⟨s, 0, none⟩)) := d1
   clear d1
   go_enter Tryz.func59, Tryz.ntmps59
   go_wp2_with fail
   refine HW.out.mono ?_
   rintro e w2 ⟨rfl, rfl⟩
   go_wp2
   go_ret2
   exact ⟨rfl, rfl⟩
set_option maxRecDepth 100000 in
set_option maxHeartbeats 4000000 in
theorem nextP_any {B : Nat} {w : World} {p bm : Nat} {vv : Value} {N : Nat} {pl : PlD} (h : PlaneIs B w p bm vv N pl) (pr : Int) (hpr : I64 pr) :
  Calls Tryz.prog 19 #[.pointer (some ⟨p, 0, none⟩), .int .i64 pr] w fun e w' => e = .returned (.tuple #[ptrO (nextS pl pr), .bool (nextS pl pr).isSome]) ∧ Ext w w' := by
 have hx : Ext w ((w.alloc (.cells #[.pointer (some ⟨p, 0, none⟩)] 48)).alloc (.cells #[.int .i64 pr] 3)) := ((Below.refl _ _).alloc (Nat.le_refl _) _).alloc (Nat.le_of_lt (by simp)) _
 have hb2 : ((w.alloc (.cells #[.pointer (some ⟨p, 0, none⟩)] 48)).alloc (.cells #[.int .i64 pr] 3)).cell? ⟨w.heap.size, 0, none⟩ = some (.pointer (some ⟨p, 0, none⟩)) := by simp
 have hb3 : ((w.alloc (.cells #[.pointer (some ⟨p, 0, none⟩)] 48)).alloc (.cells #[.int .i64 pr] 3)).cell? ⟨w.heap.size + 1, 0, none⟩ = some (.int .i64 pr) := by simp
 have H0 := hide h
 have HI := hide hpr
 have h63 := owns_len h.row
 clear h hpr
 go_enter Tryz.func19, Tryz.ntmps19
 go_wp2_with fail
 generalize (w.alloc (.cells #[.pointer (some ⟨p, 0, none⟩)] 48)).alloc (.cells #[.int .i64 pr] 3) = W at hx hb2 hb3 ⊢
 have H := hide (H0.out.ext hx)
 have HX := hide hx
 have HB2 := hide (show ∀ X, Ext W X → X.cell? ⟨w.heap.size, 0, none⟩ = some (.pointer (some ⟨p, 0, none⟩)) from fun X hX => (hX.cell (p := ⟨w.heap.size, 0, none⟩) (World.block_lt_of_cell? W _ hb2)).trans hb2)
 have HB3 := hide (show ∀ X, Ext W X → X.cell? ⟨w.heap.size + 1, 0, none⟩ = some (.int .i64 pr) from fun X hX => (hX.cell (p := ⟨w.heap.size + 1, 0, none⟩) (World.block_lt_of_cell? W _ hb3)).trans hb3)
 have H63 := hide h63
 clear hx h63
 refine (isProxy_any H.out pr).mono ?_
 rintro e w2 ⟨rfl, rfl⟩
 obtain ⟨ip, hip⟩ : ∃ b, isPr pl pr = b := ⟨_, rfl⟩
 rw [hip]
 cases ip with
 | false =>
  have hs : nextS pl pr = none := by unfold nextS; rw [if_pos hip]
  have HS := hide hs
  clear hs hip
  go_wp2
  go_ret2
  exact ⟨by rw [HS.out]; rfl, HX.out⟩
 | true =>
  have HIP := hide hip
  clear hip
  go_wp2_with fail
  refine (greatestNext1 H.out w.heap.size (w.heap.size + 1) (fun ve => decide (pl.said (pr, (ve : Int)) = 0)) (fun ve X h1 h2 hX => next1_any (H.out.ext hX) _ _ pr HI.out (HB2.out X hX) (HB3.out X hX) ve (by have := H63.out; constructor <;> omega))).mono ?_
  rintro e w2 ⟨rfl, E2⟩
  rw [show gtN (fun ve => decide (pl.said (pr, (ve : Int)) = 0)) pl.V.length = nextN pl pr from rfl]
  have q2 := HB2.out _ E2
  have q3 := HB3.out _ E2
  have HE2 := hide E2
  clear hb2 hb3 E2
  go_wp2_with fail
  refine (greatestNext2 (H.out.ext HE2.out) w.heap.size (w.heap.size + 1) (fun ve => decide (pl.said (pr, (ve : Int)) = 1)) (fun ve X h1 h2 hX => next2_any ((H.out.ext HE2.out).ext hX) _ _ pr HI.out (HB2.out X (HE2.out.trans hX)) (HB3.out X (HE2.out.trans hX)) ve (by have := H63.out; constructor <;> omega))).mono ?_
  rintro e w3 ⟨rfl, E3⟩
  rw [show gtN (fun ve => decide (pl.said (pr, (ve : Int)) = 1)) pl.V.length = hasN pl pr from rfl]
  have HE3 := hide (HE2.out.trans E3)
  have q4 := HB2.out _ HE3.out
  clear q2 q3 E3 HE2
  by_cases hle : nextN pl pr ≤ hasN pl pr
  ·have hs : nextS pl pr = none := by unfold nextS; rw [if_neg (by rw [HIP.out]; decide), if_pos hle]
   have HS := hide hs
   have hlz : ((nextN pl pr : Nat) : Int) ≤ ((hasN pl pr : Nat) : Int) := by omega
   generalize nextN pl pr = nn at *
   generalize hasN pl pr = hh at *
   clear hs hle
   go_wp2
   go_ret2
   exact ⟨by rw [HS.out]; rfl, HX.out.trans HE3.out⟩
  ·have hs : nextS pl pr = plSnap pl (nextN pl pr : Nat) := by unfold nextS; rw [if_neg (by rw [HIP.out]; decide), if_neg hle]
   have HS := hide hs
   have hlz : ¬ ((nextN pl pr : Nat) : Int) ≤ ((hasN pl pr : Nat) : Int) := by omega
   generalize nextN pl pr = nn at *
   generalize hasN pl pr = hh at *
   clear hs hle
   go_wp2_with fail
   refine (snapP_any (H.out.ext HE3.out) (nn : Int)).mono ?_
   rintro e w4 ⟨rfl, rfl⟩
   go_wp2
   go_ret2
   exact ⟨by rw [HS.out]; rfl, HX.out.trans HE3.out⟩
end Go.Proofs.YtkhebanpplokdaaGreatDoor
