import Derived.Test.YtceaeiaoanhlnaaDoorOwEw
import Derived.Test.YtceaeiaoanhlnaaDoorZrfw
import Derived.Test.YtceaeiaoanhlnaaDoorGnKw
import Derived.Test.YtceaeiaoanhlnaaDoorZrlw
import Derived.Test.YtceaeiaoanhlnaaDoorRegSw
namespace Go.Proofs.YtceaeiaoanhlnaaDoor
open Go.ChangeShapes Go.WideShapes Go.ChangeAt Go.RowKit Go.Lib Go.Shelf
/-- a step into a piece of code -/
def stepIn : Nat → Code → Code
 | 0, .seq a _ => a
 | 1, .seq _ b => b
 | 2, .cond _ a _ => a
 | 3, .cond _ _ b => b
 | 4, .block _ a => a
 | 5, .loop a => a
 | 6, .scope a => a
 | _, c => c
def goIn : List Nat → Code → Code
 | [], c => c
 | k :: l, c => goIn l (stepIn k c)
set_option maxRecDepth 100000 in
noncomputable def own8_r22X : { ops : Array Oper // goIn [1, 1, 1, 1, 1, 1, 0, 1, 4, 5, 1, 0, 4, 1, 1, 1, 1, 0] ((Tryd.f3.body).getD .skip) = .region 22 ops true } := ⟨_, rfl⟩
set_option maxRecDepth 100000 in
set_option maxHeartbeats 32000000 in
theorem own8_r22 (W12 : World) (b17 yb yoff i N3 yc : Nat) (s path pre : ByteArray) (ex : Bool) (H S : List HeadD) (P : List (Int × Int)) (D : List ByteArray)
  (ah2 ap2 as2 ad2 ah3 ap3 as3 ad3 : Option Addr) (ch2 cp2 cs2 cd2 ch3 cp3 cs3 cd3 : Nat) (mi ab de ti q0 q1 q2 q3 q4 q5 q6 rate : Int)
  (HC17 : Hid (∀ X, Ext W12 X → ∀ j u, (encR (⟨path, ex, .slice ah2 H.length ch2, H, .slice ap2 P.length cp2, P, mi, ab, de, ti, pre, .slice as2 S.length cs2, S, .slice ad2 D.length cd2, D, q0, q1, q2, q3, q4, q5, q6, rate⟩ : RuleD))[j]? = some u → X.cell? ⟨b17, j, none⟩ = some u))
  (HC3 : Hid (∀ X, Ext W12 X → ∀ j u, (encR (⟨path, ex, .slice ah3 H.length ch3, H, .slice ap3 P.length cp3, P, mi, ab, de, ti, pre, .slice as3 S.length cs3, S, .slice ad3 D.length cd3, D, q0, q1, q2, q3, q4, q5, q6, rate⟩ : RuleD))[j]? = some u → X.cell? ⟨yb, yoff + i * 19 + j, none⟩ = some u))
  (HO2 : Hid (RuleOk W12 (⟨path, ex, .slice ah2 H.length ch2, H, .slice ap2 P.length cp2, P, mi, ab, de, ti, pre, .slice as2 S.length cs2, S, .slice ad2 D.length cd2, D, q0, q1, q2, q3, q4, q5, q6, rate⟩ : RuleD))) (HO3 : Hid (RuleOk W12 (⟨path, ex, .slice ah3 H.length ch3, H, .slice ap3 P.length cp3, P, mi, ab, de, ti, pre, .slice as3 S.length cs3, S, .slice ad3 D.length cd3, D, q0, q1, q2, q3, q4, q5, q6, rate⟩ : RuleD))) (HM : Hid (MaxV W12)) (HSZ : Hid (s.size ≤ 62))
  (HMI : Hid (path.size ≤ 62 ∧ pre.size ≤ 62 ∧ Sp.SumFits P)) (HI0 : Hid ((0 : Int) ≤ i ∧ (i : Int) < N3))
  (F : Array Value) (hn : F.size = 232) (f9 : F.getD 9 undef = (.slice (some ⟨yb, yoff, none⟩) N3 yc)) (f10 : F.getD 10 undef = (.string s)) (f13 : F.getD 13 undef = (.int .i64 (i : Int))) (f17 : F.getD 17 undef = (.pointer (some ⟨b17, 0, none⟩))) (Q : Exit → Act → World → Prop)
  (hQ : ∀ (X : Nat → Value) w', Ext W12 w' → X 18 = (.bool true) → Q .normal ⟨overF X [18, 95, 96, 97, 98, 99, 100, 101, 102, 103, 104, 105, 106, 107, 108, 109, 110, 111, 112, 113, 114, 115, 116, 117, 118, 119, 120, 121, 122, 123, 124] F, []⟩ w') : Code.wp Tryd.prog (.region 22 own8_r22X.1 true) Q ⟨F, []⟩ W12 := by
 obtain ⟨dd, hd1, hd2⟩ := Tryd.ruleDesc
 unfold own8_r22X
 dsimp only
 refine wp_region_rw 232 [] [18, 95, 96, 97, 98, 99, 100, 101, 102, 103, 104, 105, 106, 107, 108, 109, 110, 111, 112, 113, 114, 115, 116, 117, 118, 119, 120, 121, 122, 123, 124] (fun _ w' => Ext W12 w') (fun (t : Nat) (wI : World) (v : Value) => match t with | 18 => v = (.bool true) | 95 => v = (.pointer (some ⟨b17, 0, none⟩)) | 96 => v = (.pointer (some ⟨b17, 2, none⟩)) | 97 => v = (.slice ah2 H.length ch2) | 98 => v = (.slice (some ⟨yb, yoff, none⟩) N3 yc) | 99 => v = (.int .i64 (i : Int)) | 100 => v = (.pointer (some ⟨yb, yoff + i * 19, none⟩)) | 101 => v = (.pointer (some ⟨yb, yoff + i * 19, none⟩)) | 102 => v = (.pointer (some ⟨yb, yoff + i * 19 + 2, none⟩)) | 103 => v = (.slice ah3 H.length ch3) | 104 => v = (.bool true) | 105 => v = (.bool true) | 106 => v = (.pointer (some ⟨b17, 9, none⟩)) | 107 => v = (.slice as2 S.length cs2) | 108 => v = (.slice (some ⟨yb, yoff, none⟩) N3 yc) | 109 => v = (.int .i64 (i : Int)) | 110 => v = (.pointer (some ⟨yb, yoff + i * 19, none⟩)) | 111 => v = (.pointer (some ⟨yb, yoff + i * 19 + 9, none⟩)) | 112 => v = (.slice as3 S.length cs3) | 113 => v = (.bool true) | 114 => v = (.bool true) | 115 => v = (.bool true) | 116 => v = (.pointer (some ⟨b17, 10, none⟩)) | 117 => v = (.slice ad2 D.length cd2) | 118 => v = (.slice (some ⟨yb, yoff, none⟩) N3 yc) | 119 => v = (.int .i64 (i : Int)) | 120 => v = (.pointer (some ⟨yb, yoff + i * 19, none⟩)) | 121 => v = (.pointer (some ⟨yb, yoff + i * 19 + 10, none⟩)) | 122 => v = (.slice ad3 D.length cd3) | 123 => v = (.bool true) | 124 => v = (.bool true) | _ => True) (fun w' w'' => Ext w' w'') (by kernel_rfl) hn (by kernel_rfl) (by kernel_rfl) (by kernel_rfl) (by kernel_rfl) ?_ ?_ ?_ ?_ ?_ ?_ ?_
 ·intro w' w'' h
  exact h
 ·intro t w' w'' v hR hv
  exact hv
 ·intro vs w' w'' h e
  exact Ext.trans h e
 ·exact (Below.refl _ _).drew
 ·intro i o ho hmi vs X w' hpk hph hX hI hF K hK
  have ec : ∀ c, evX 232 X (.const c) = c := fun _ => rfl
  have ef : ∀ c, evX 232 X (.func c) = .func (.func c) #[] #[] := fun _ => rfl
  have hin : i < 31 := (Array.getElem?_eq_some_iff.1 ho).1
  have hi : i = 0 ∨ i = 1 ∨ i = 2 ∨ i = 3 ∨ i = 4 ∨ i = 5 ∨ i = 6 ∨ i = 7 ∨ i = 8 ∨ i = 9 ∨ i = 10 ∨ i = 11 ∨ i = 12 ∨ i = 13 ∨ i = 14 ∨ i = 15 ∨ i = 16 ∨ i = 17 ∨ i = 18 ∨ i = 19 ∨ i = 20 ∨ i = 21 ∨ i = 22 ∨ i = 23 ∨ i = 24 ∨ i = 25 ∨ i = 26 ∨ i = 27 ∨ i = 28 ∨ i = 29 ∨ i = 30 := by omega
  clear hX hpk hmi
  rcases hi with rfl | rfl | rfl | rfl | rfl | rfl | rfl | rfl | rfl | rfl | rfl | rfl | rfl | rfl | rfl | rfl | rfl | rfl | rfl | rfl | rfl | rfl | rfl | rfl | rfl | rfl | rfl | rfl | rfl | rfl | rfl
  ·obtain rfl := Option.some.inj ho
   have e17 : evX 232 X (.tmp 17) = (.pointer (some ⟨b17, 0, none⟩)) := ev_tmp ((hF 17 (by omega) (by kernel_rfl)).trans f17)
   clear hI hF
   refine arm_val ho (want_none rfl) (.pointer (some ⟨b17, 0, none⟩)) ?_ (hK.out (.pointer (some ⟨b17, 0, none⟩)) _ (Below.refl _ _) (fun d hd => by cases hd; exact rfl))
   go_simp
  ·obtain rfl := Option.some.inj ho
   have e95 : evX 232 X (.tmp 95) = (.pointer (some ⟨b17, 0, none⟩)) := ev_tmp (hI 95 (kdir ho 0 (by kernel_rfl) (by kernel_rfl)) (kdst 0 (by kernel_rfl)))
   clear hI hF
   refine arm_val ho (want_none rfl) (.pointer (some ⟨b17, 2, none⟩)) ?_ (hK.out (.pointer (some ⟨b17, 2, none⟩)) _ (Below.refl _ _) (fun d hd => by cases hd; exact rfl))
   go_simp
  ·obtain rfl := Option.some.inj ho
   have e96 : evX 232 X (.tmp 96) = (.pointer (some ⟨b17, 2, none⟩)) := ev_tmp (hI 96 (kdir ho 1 (by kernel_rfl) (by kernel_rfl)) (kdst 1 (by kernel_rfl)))
   clear hI hF
   have hxe : Ext W12 w' := hph
   have c0 := HC17.out w' hxe 2 _ rfl
   refine arm_val ho (want_none rfl) (.slice ah2 H.length ch2) ?_ (hK.out (.slice ah2 H.length ch2) _ (Below.refl _ _) (fun d hd => by cases hd; exact rfl))
   go_simp
  ·obtain rfl := Option.some.inj ho
   have e9 : evX 232 X (.tmp 9) = (.slice (some ⟨yb, yoff, none⟩) N3 yc) := ev_tmp ((hF 9 (by omega) (by kernel_rfl)).trans f9)
   clear hI hF
   refine arm_val ho (want_none rfl) (.slice (some ⟨yb, yoff, none⟩) N3 yc) ?_ (hK.out (.slice (some ⟨yb, yoff, none⟩) N3 yc) _ (Below.refl _ _) (fun d hd => by cases hd; exact rfl))
   go_simp
  ·obtain rfl := Option.some.inj ho
   have e13 : evX 232 X (.tmp 13) = (.int .i64 (i : Int)) := ev_tmp ((hF 13 (by omega) (by kernel_rfl)).trans f13)
   clear hI hF
   refine arm_val ho (want_none rfl) (.int .i64 (i : Int)) ?_ (hK.out (.int .i64 (i : Int)) _ (Below.refl _ _) (fun d hd => by cases hd; exact rfl))
   go_simp
  ·obtain rfl := Option.some.inj ho
   have e98 : evX 232 X (.tmp 98) = (.slice (some ⟨yb, yoff, none⟩) N3 yc) := ev_tmp (hI 98 (kdir ho 3 (by kernel_rfl) (by kernel_rfl)) (kdst 3 (by kernel_rfl)))
   have e99 : evX 232 X (.tmp 99) = (.int .i64 (i : Int)) := ev_tmp (hI 99 (kdir ho 4 (by kernel_rfl) (by kernel_rfl)) (kdst 4 (by kernel_rfl)))
   clear hI hF
   have q1 := HI0.out.1
   have q2 := HI0.out.2
   refine arm_val ho (want_none rfl) (.pointer (some ⟨yb, yoff + i * 19, none⟩)) ?_ (hK.out (.pointer (some ⟨yb, yoff + i * 19, none⟩)) _ (Below.refl _ _) (fun d hd => by cases hd; exact rfl))
   go_simp
  ·obtain rfl := Option.some.inj ho
   have e100 : evX 232 X (.tmp 100) = (.pointer (some ⟨yb, yoff + i * 19, none⟩)) := ev_tmp (hI 100 (kdir ho 5 (by kernel_rfl) (by kernel_rfl)) (kdst 5 (by kernel_rfl)))
   clear hI hF
   refine arm_val ho (want_none rfl) (.pointer (some ⟨yb, yoff + i * 19, none⟩)) ?_ (hK.out (.pointer (some ⟨yb, yoff + i * 19, none⟩)) _ (Below.refl _ _) (fun d hd => by cases hd; exact rfl))
   go_simp
  ·obtain rfl := Option.some.inj ho
   have e101 : evX 232 X (.tmp 101) = (.pointer (some ⟨yb, yoff + i * 19, none⟩)) := ev_tmp (hI 101 (kdir ho 6 (by kernel_rfl) (by kernel_rfl)) (kdst 6 (by kernel_rfl)))
   clear hI hF
   refine arm_val ho (want_none rfl) (.pointer (some ⟨yb, yoff + i * 19 + 2, none⟩)) ?_ (hK.out (.pointer (some ⟨yb, yoff + i * 19 + 2, none⟩)) _ (Below.refl _ _) (fun d hd => by cases hd; exact rfl))
   go_simp
  ·obtain rfl := Option.some.inj ho
   have e102 : evX 232 X (.tmp 102) = (.pointer (some ⟨yb, yoff + i * 19 + 2, none⟩)) := ev_tmp (hI 102 (kdir ho 7 (by kernel_rfl) (by kernel_rfl)) (kdst 7 (by kernel_rfl)))
   clear hI hF
   have hxe : Ext W12 w' := hph
   have c0 := HC3.out w' hxe 2 _ rfl
   refine arm_val ho (want_none rfl) (.slice ah3 H.length ch3) ?_ (hK.out (.slice ah3 H.length ch3) _ (Below.refl _ _) (fun d hd => by cases hd; exact rfl))
   go_simp
  ·obtain rfl := Option.some.inj ho
   have e97 : evX 232 X (.tmp 97) = (.slice ah2 H.length ch2) := ev_tmp (hI 97 (kdir ho 2 (by kernel_rfl) (by kernel_rfl)) (kdst 2 (by kernel_rfl)))
   have e103 : evX 232 X (.tmp 103) = (.slice ah3 H.length ch3) := ev_tmp (hI 103 (kdir ho 8 (by kernel_rfl) (by kernel_rfl)) (kdst 8 (by kernel_rfl)))
   clear hI hF
   have hxe : Ext W12 w' := hph
   refine arm_call ho (want_none rfl) _ _ (.bool true) ?_ (Calls.mono (sameRow_any H _ _ w' (HO2.out.ext hxe).1 (HO3.out.ext hxe).1) ?_) (fun w9 E9 => hK.out (.bool true) w9 E9 (fun d hd => by cases hd; exact rfl))
   ·(go_simp <;> rfl)
   ·rintro e w9 ⟨rfl, E9⟩
    exact ⟨by first | rfl | simp, E9⟩
  ·obtain rfl := Option.some.inj ho
   have e104 : evX 232 X (.tmp 104) = (.bool true) := ev_tmp (hI 104 (kdir ho 9 (by kernel_rfl) (by kernel_rfl)) (kdst 9 (by kernel_rfl)))
   clear hI hF
   refine arm_val ho (want_none rfl) (.bool true) ?_ (hK.out (.bool true) _ (Below.refl _ _) (fun d hd => by cases hd; exact rfl))
   go_simp
  ·obtain rfl := Option.some.inj ho
   have e17 : evX 232 X (.tmp 17) = (.pointer (some ⟨b17, 0, none⟩)) := ev_tmp ((hF 17 (by omega) (by kernel_rfl)).trans f17)
   have eg : X 105 = (.bool true) := hI 105 (kdir ho 10 (by kernel_rfl) (by kernel_rfl)) (kdst 10 (by kernel_rfl))
   clear hI hF
   refine arm_val ho (want_some (d := 105) rfl (by rfl) eg) (.pointer (some ⟨b17, 9, none⟩)) ?_ (hK.out (.pointer (some ⟨b17, 9, none⟩)) _ (Below.refl _ _) (fun d hd => by cases hd; exact rfl))
   go_simp
  ·obtain rfl := Option.some.inj ho
   have e106 : evX 232 X (.tmp 106) = (.pointer (some ⟨b17, 9, none⟩)) := ev_tmp (hI 106 (kdir ho 11 (by kernel_rfl) (by kernel_rfl)) (kdst 11 (by kernel_rfl)))
   have eg : X 105 = (.bool true) := hI 105 (kdir ho 10 (by kernel_rfl) (by kernel_rfl)) (kdst 10 (by kernel_rfl))
   clear hI hF
   have hxe : Ext W12 w' := hph
   have c0 := HC17.out w' hxe 9 _ rfl
   refine arm_val ho (want_some (d := 105) rfl (by rfl) eg) (.slice as2 S.length cs2) ?_ (hK.out (.slice as2 S.length cs2) _ (Below.refl _ _) (fun d hd => by cases hd; exact rfl))
   go_simp
  ·obtain rfl := Option.some.inj ho
   have e9 : evX 232 X (.tmp 9) = (.slice (some ⟨yb, yoff, none⟩) N3 yc) := ev_tmp ((hF 9 (by omega) (by kernel_rfl)).trans f9)
   have eg : X 105 = (.bool true) := hI 105 (kdir ho 10 (by kernel_rfl) (by kernel_rfl)) (kdst 10 (by kernel_rfl))
   clear hI hF
   refine arm_val ho (want_some (d := 105) rfl (by rfl) eg) (.slice (some ⟨yb, yoff, none⟩) N3 yc) ?_ (hK.out (.slice (some ⟨yb, yoff, none⟩) N3 yc) _ (Below.refl _ _) (fun d hd => by cases hd; exact rfl))
   go_simp
  ·obtain rfl := Option.some.inj ho
   have e13 : evX 232 X (.tmp 13) = (.int .i64 (i : Int)) := ev_tmp ((hF 13 (by omega) (by kernel_rfl)).trans f13)
   have eg : X 105 = (.bool true) := hI 105 (kdir ho 10 (by kernel_rfl) (by kernel_rfl)) (kdst 10 (by kernel_rfl))
   clear hI hF
   refine arm_val ho (want_some (d := 105) rfl (by rfl) eg) (.int .i64 (i : Int)) ?_ (hK.out (.int .i64 (i : Int)) _ (Below.refl _ _) (fun d hd => by cases hd; exact rfl))
   go_simp
  ·obtain rfl := Option.some.inj ho
   have e108 : evX 232 X (.tmp 108) = (.slice (some ⟨yb, yoff, none⟩) N3 yc) := ev_tmp (hI 108 (kdir ho 13 (by kernel_rfl) (by kernel_rfl)) (kdst 13 (by kernel_rfl)))
   have e109 : evX 232 X (.tmp 109) = (.int .i64 (i : Int)) := ev_tmp (hI 109 (kdir ho 14 (by kernel_rfl) (by kernel_rfl)) (kdst 14 (by kernel_rfl)))
   have eg : X 105 = (.bool true) := hI 105 (kdir ho 10 (by kernel_rfl) (by kernel_rfl)) (kdst 10 (by kernel_rfl))
   clear hI hF
   have q1 := HI0.out.1
   have q2 := HI0.out.2
   refine arm_val ho (want_some (d := 105) rfl (by rfl) eg) (.pointer (some ⟨yb, yoff + i * 19, none⟩)) ?_ (hK.out (.pointer (some ⟨yb, yoff + i * 19, none⟩)) _ (Below.refl _ _) (fun d hd => by cases hd; exact rfl))
   go_simp
  ·obtain rfl := Option.some.inj ho
   have e110 : evX 232 X (.tmp 110) = (.pointer (some ⟨yb, yoff + i * 19, none⟩)) := ev_tmp (hI 110 (kdir ho 15 (by kernel_rfl) (by kernel_rfl)) (kdst 15 (by kernel_rfl)))
   have eg : X 105 = (.bool true) := hI 105 (kdir ho 10 (by kernel_rfl) (by kernel_rfl)) (kdst 10 (by kernel_rfl))
   clear hI hF
   refine arm_val ho (want_some (d := 105) rfl (by rfl) eg) (.pointer (some ⟨yb, yoff + i * 19 + 9, none⟩)) ?_ (hK.out (.pointer (some ⟨yb, yoff + i * 19 + 9, none⟩)) _ (Below.refl _ _) (fun d hd => by cases hd; exact rfl))
   go_simp
  ·obtain rfl := Option.some.inj ho
   have e111 : evX 232 X (.tmp 111) = (.pointer (some ⟨yb, yoff + i * 19 + 9, none⟩)) := ev_tmp (hI 111 (kdir ho 16 (by kernel_rfl) (by kernel_rfl)) (kdst 16 (by kernel_rfl)))
   have eg : X 105 = (.bool true) := hI 105 (kdir ho 10 (by kernel_rfl) (by kernel_rfl)) (kdst 10 (by kernel_rfl))
   clear hI hF
   have hxe : Ext W12 w' := hph
   have c0 := HC3.out w' hxe 9 _ rfl
   refine arm_val ho (want_some (d := 105) rfl (by rfl) eg) (.slice as3 S.length cs3) ?_ (hK.out (.slice as3 S.length cs3) _ (Below.refl _ _) (fun d hd => by cases hd; exact rfl))
   go_simp
  ·obtain rfl := Option.some.inj ho
   have e107 : evX 232 X (.tmp 107) = (.slice as2 S.length cs2) := ev_tmp (hI 107 (kdir ho 12 (by kernel_rfl) (by kernel_rfl)) (kdst 12 (by kernel_rfl)))
   have e112 : evX 232 X (.tmp 112) = (.slice as3 S.length cs3) := ev_tmp (hI 112 (kdir ho 17 (by kernel_rfl) (by kernel_rfl)) (kdst 17 (by kernel_rfl)))
   have eg : X 105 = (.bool true) := hI 105 (kdir ho 10 (by kernel_rfl) (by kernel_rfl)) (kdst 10 (by kernel_rfl))
   clear hI hF
   have hxe : Ext W12 w' := hph
   refine arm_call ho (want_some (d := 105) rfl (by rfl) eg) _ _ (.bool true) ?_ (Calls.mono (sameRow_any S _ _ w' (HO2.out.ext hxe).2.2.1 (HO3.out.ext hxe).2.2.1) ?_) (fun w9 E9 => hK.out (.bool true) w9 E9 (fun d hd => by cases hd; exact rfl))
   ·(go_simp <;> rfl)
   ·rintro e w9 ⟨rfl, E9⟩
    exact ⟨by first | rfl | simp, E9⟩
  ·obtain rfl := Option.some.inj ho
   have e105 : evX 232 X (.tmp 105) = (.bool true) := ev_tmp (hI 105 (kdir ho 10 (by kernel_rfl) (by kernel_rfl)) (kdst 10 (by kernel_rfl)))
   have e113 : evX 232 X (.tmp 113) = (.bool true) := ev_tmp (hI 113 (kdir ho 18 (by kernel_rfl) (by kernel_rfl)) (kdst 18 (by kernel_rfl)))
   clear hI hF
   refine arm_val ho (want_none rfl) (.bool true) ?_ (hK.out (.bool true) _ (Below.refl _ _) (fun d hd => by cases hd; exact rfl))
   go_simp
  ·obtain rfl := Option.some.inj ho
   have e114 : evX 232 X (.tmp 114) = (.bool true) := ev_tmp (hI 114 (kdir ho 19 (by kernel_rfl) (by kernel_rfl)) (kdst 19 (by kernel_rfl)))
   clear hI hF
   refine arm_val ho (want_none rfl) (.bool true) ?_ (hK.out (.bool true) _ (Below.refl _ _) (fun d hd => by cases hd; exact rfl))
   go_simp
  ·obtain rfl := Option.some.inj ho
   have e17 : evX 232 X (.tmp 17) = (.pointer (some ⟨b17, 0, none⟩)) := ev_tmp ((hF 17 (by omega) (by kernel_rfl)).trans f17)
   have eg : X 115 = (.bool true) := hI 115 (kdir ho 20 (by kernel_rfl) (by kernel_rfl)) (kdst 20 (by kernel_rfl))
   clear hI hF
   refine arm_val ho (want_some (d := 115) rfl (by rfl) eg) (.pointer (some ⟨b17, 10, none⟩)) ?_ (hK.out (.pointer (some ⟨b17, 10, none⟩)) _ (Below.refl _ _) (fun d hd => by cases hd; exact rfl))
   go_simp
  ·obtain rfl := Option.some.inj ho
   have e116 : evX 232 X (.tmp 116) = (.pointer (some ⟨b17, 10, none⟩)) := ev_tmp (hI 116 (kdir ho 21 (by kernel_rfl) (by kernel_rfl)) (kdst 21 (by kernel_rfl)))
   have eg : X 115 = (.bool true) := hI 115 (kdir ho 20 (by kernel_rfl) (by kernel_rfl)) (kdst 20 (by kernel_rfl))
   clear hI hF
   have hxe : Ext W12 w' := hph
   have c0 := HC17.out w' hxe 10 _ rfl
   refine arm_val ho (want_some (d := 115) rfl (by rfl) eg) (.slice ad2 D.length cd2) ?_ (hK.out (.slice ad2 D.length cd2) _ (Below.refl _ _) (fun d hd => by cases hd; exact rfl))
   go_simp
  ·obtain rfl := Option.some.inj ho
   have e9 : evX 232 X (.tmp 9) = (.slice (some ⟨yb, yoff, none⟩) N3 yc) := ev_tmp ((hF 9 (by omega) (by kernel_rfl)).trans f9)
   have eg : X 115 = (.bool true) := hI 115 (kdir ho 20 (by kernel_rfl) (by kernel_rfl)) (kdst 20 (by kernel_rfl))
   clear hI hF
   refine arm_val ho (want_some (d := 115) rfl (by rfl) eg) (.slice (some ⟨yb, yoff, none⟩) N3 yc) ?_ (hK.out (.slice (some ⟨yb, yoff, none⟩) N3 yc) _ (Below.refl _ _) (fun d hd => by cases hd; exact rfl))
   go_simp
  ·obtain rfl := Option.some.inj ho
   have e13 : evX 232 X (.tmp 13) = (.int .i64 (i : Int)) := ev_tmp ((hF 13 (by omega) (by kernel_rfl)).trans f13)
   have eg : X 115 = (.bool true) := hI 115 (kdir ho 20 (by kernel_rfl) (by kernel_rfl)) (kdst 20 (by kernel_rfl))
   clear hI hF
   refine arm_val ho (want_some (d := 115) rfl (by rfl) eg) (.int .i64 (i : Int)) ?_ (hK.out (.int .i64 (i : Int)) _ (Below.refl _ _) (fun d hd => by cases hd; exact rfl))
   go_simp
  ·obtain rfl := Option.some.inj ho
   have e118 : evX 232 X (.tmp 118) = (.slice (some ⟨yb, yoff, none⟩) N3 yc) := ev_tmp (hI 118 (kdir ho 23 (by kernel_rfl) (by kernel_rfl)) (kdst 23 (by kernel_rfl)))
   have e119 : evX 232 X (.tmp 119) = (.int .i64 (i : Int)) := ev_tmp (hI 119 (kdir ho 24 (by kernel_rfl) (by kernel_rfl)) (kdst 24 (by kernel_rfl)))
   have eg : X 115 = (.bool true) := hI 115 (kdir ho 20 (by kernel_rfl) (by kernel_rfl)) (kdst 20 (by kernel_rfl))
   clear hI hF
   have q1 := HI0.out.1
   have q2 := HI0.out.2
   refine arm_val ho (want_some (d := 115) rfl (by rfl) eg) (.pointer (some ⟨yb, yoff + i * 19, none⟩)) ?_ (hK.out (.pointer (some ⟨yb, yoff + i * 19, none⟩)) _ (Below.refl _ _) (fun d hd => by cases hd; exact rfl))
   go_simp
  ·obtain rfl := Option.some.inj ho
   have e120 : evX 232 X (.tmp 120) = (.pointer (some ⟨yb, yoff + i * 19, none⟩)) := ev_tmp (hI 120 (kdir ho 25 (by kernel_rfl) (by kernel_rfl)) (kdst 25 (by kernel_rfl)))
   have eg : X 115 = (.bool true) := hI 115 (kdir ho 20 (by kernel_rfl) (by kernel_rfl)) (kdst 20 (by kernel_rfl))
   clear hI hF
   refine arm_val ho (want_some (d := 115) rfl (by rfl) eg) (.pointer (some ⟨yb, yoff + i * 19 + 10, none⟩)) ?_ (hK.out (.pointer (some ⟨yb, yoff + i * 19 + 10, none⟩)) _ (Below.refl _ _) (fun d hd => by cases hd; exact rfl))
   go_simp
  ·obtain rfl := Option.some.inj ho
   have e121 : evX 232 X (.tmp 121) = (.pointer (some ⟨yb, yoff + i * 19 + 10, none⟩)) := ev_tmp (hI 121 (kdir ho 26 (by kernel_rfl) (by kernel_rfl)) (kdst 26 (by kernel_rfl)))
   have eg : X 115 = (.bool true) := hI 115 (kdir ho 20 (by kernel_rfl) (by kernel_rfl)) (kdst 20 (by kernel_rfl))
   clear hI hF
   have hxe : Ext W12 w' := hph
   have c0 := HC3.out w' hxe 10 _ rfl
   refine arm_val ho (want_some (d := 115) rfl (by rfl) eg) (.slice ad3 D.length cd3) ?_ (hK.out (.slice ad3 D.length cd3) _ (Below.refl _ _) (fun d hd => by cases hd; exact rfl))
   go_simp
  ·obtain rfl := Option.some.inj ho
   have e117 : evX 232 X (.tmp 117) = (.slice ad2 D.length cd2) := ev_tmp (hI 117 (kdir ho 22 (by kernel_rfl) (by kernel_rfl)) (kdst 22 (by kernel_rfl)))
   have e122 : evX 232 X (.tmp 122) = (.slice ad3 D.length cd3) := ev_tmp (hI 122 (kdir ho 27 (by kernel_rfl) (by kernel_rfl)) (kdst 27 (by kernel_rfl)))
   have eg : X 115 = (.bool true) := hI 115 (kdir ho 20 (by kernel_rfl) (by kernel_rfl)) (kdst 20 (by kernel_rfl))
   clear hI hF
   have hxe : Ext W12 w' := hph
   have hst := sameTexts_any D D _ _ w' (HO2.out.ext hxe).2.2.2 (HO3.out.ext hxe).2.2.2
   rw [show sameTexts D D = true from decide_eq_true rfl] at hst
   refine arm_call ho (want_some (d := 115) rfl (by rfl) eg) _ _ (.bool true) ?_ (Calls.mono (hst) ?_) (fun w9 E9 => hK.out (.bool true) w9 E9 (fun d hd => by cases hd; exact rfl))
   ·(go_simp <;> rfl)
   ·rintro e w9 ⟨rfl, E9⟩
    exact ⟨by first | rfl | simp, E9⟩
  ·obtain rfl := Option.some.inj ho
   have e115 : evX 232 X (.tmp 115) = (.bool true) := ev_tmp (hI 115 (kdir ho 20 (by kernel_rfl) (by kernel_rfl)) (kdst 20 (by kernel_rfl)))
   have e123 : evX 232 X (.tmp 123) = (.bool true) := ev_tmp (hI 123 (kdir ho 28 (by kernel_rfl) (by kernel_rfl)) (kdst 28 (by kernel_rfl)))
   clear hI hF
   refine arm_val ho (want_none rfl) (.bool true) ?_ (hK.out (.bool true) _ (Below.refl _ _) (fun d hd => by cases hd; exact rfl))
   go_simp
  ·obtain rfl := Option.some.inj ho
   have e124 : evX 232 X (.tmp 124) = (.bool true) := ev_tmp (hI 124 (kdir ho 29 (by kernel_rfl) (by kernel_rfl)) (kdst 29 (by kernel_rfl)))
   clear hI hF
   refine arm_val ho (want_none rfl) (.bool true) ?_ (hK.out (.bool true) _ (Below.refl _ _) (fun d hd => by cases hd; exact rfl))
   go_simp
 ·intro i o ho hmi vs X w' hqi hql hph hX hI hF K hK
  exact absurd hql (Nat.not_lt_zero _)
 ·intro vs X w' hlen hph hX hI
  have e18 : X 18 = _ := hI 18 (by omega) (by kernel_rfl) (by kernel_rfl)
  exact hQ X w' hph e18

set_option maxRecDepth 100000 in
noncomputable def own8_r23X : { ops : Array Oper // goIn [1, 1, 1, 1, 1, 1, 0, 1, 4, 5, 1, 0, 4, 1, 1, 1, 1, 1, 0] ((Tryd.f3.body).getD .skip) = .region 23 ops true } := ⟨_, rfl⟩
set_option maxRecDepth 100000 in
set_option maxHeartbeats 32000000 in
theorem own8_r23 (W12 : World) (b17 yb yoff i N3 yc : Nat) (s path pre : ByteArray) (ex : Bool) (H S : List HeadD) (P : List (Int × Int)) (D : List ByteArray)
  (ah2 ap2 as2 ad2 ah3 ap3 as3 ad3 : Option Addr) (ch2 cp2 cs2 cd2 ch3 cp3 cs3 cd3 : Nat) (mi ab de ti q0 q1 q2 q3 q4 q5 q6 rate : Int)
  (HC17 : Hid (∀ X, Ext W12 X → ∀ j u, (encR (⟨path, ex, .slice ah2 H.length ch2, H, .slice ap2 P.length cp2, P, mi, ab, de, ti, pre, .slice as2 S.length cs2, S, .slice ad2 D.length cd2, D, q0, q1, q2, q3, q4, q5, q6, rate⟩ : RuleD))[j]? = some u → X.cell? ⟨b17, j, none⟩ = some u))
  (HC3 : Hid (∀ X, Ext W12 X → ∀ j u, (encR (⟨path, ex, .slice ah3 H.length ch3, H, .slice ap3 P.length cp3, P, mi, ab, de, ti, pre, .slice as3 S.length cs3, S, .slice ad3 D.length cd3, D, q0, q1, q2, q3, q4, q5, q6, rate⟩ : RuleD))[j]? = some u → X.cell? ⟨yb, yoff + i * 19 + j, none⟩ = some u))
  (HO2 : Hid (RuleOk W12 (⟨path, ex, .slice ah2 H.length ch2, H, .slice ap2 P.length cp2, P, mi, ab, de, ti, pre, .slice as2 S.length cs2, S, .slice ad2 D.length cd2, D, q0, q1, q2, q3, q4, q5, q6, rate⟩ : RuleD))) (HO3 : Hid (RuleOk W12 (⟨path, ex, .slice ah3 H.length ch3, H, .slice ap3 P.length cp3, P, mi, ab, de, ti, pre, .slice as3 S.length cs3, S, .slice ad3 D.length cd3, D, q0, q1, q2, q3, q4, q5, q6, rate⟩ : RuleD))) (HM : Hid (MaxV W12)) (HSZ : Hid (s.size ≤ 62))
  (HMI : Hid (path.size ≤ 62 ∧ pre.size ≤ 62 ∧ Sp.SumFits P)) (HI0 : Hid ((0 : Int) ≤ i ∧ (i : Int) < N3))
  (F : Array Value) (hn : F.size = 232) (f9 : F.getD 9 undef = (.slice (some ⟨yb, yoff, none⟩) N3 yc)) (f10 : F.getD 10 undef = (.string s)) (f13 : F.getD 13 undef = (.int .i64 (i : Int))) (f17 : F.getD 17 undef = (.pointer (some ⟨b17, 0, none⟩))) (f18 : F.getD 18 undef = (.bool true)) (Q : Exit → Act → World → Prop)
  (hQ : ∀ (X : Nat → Value) w', Ext W12 w' → X 182 = (.bool false) → Q .normal ⟨overF X [125, 126, 127, 128, 129, 130, 131, 132, 133, 134, 135, 136, 137, 138, 139, 140, 141, 142, 143, 144, 145, 146, 147, 148, 149, 150, 151, 152, 153, 154, 155, 156, 157, 158, 159, 160, 161, 162, 163, 164, 165, 166, 167, 168, 169, 170, 171, 172, 173, 174, 175, 176, 177, 178, 179, 180, 181, 182] F, []⟩ w') : Code.wp Tryd.prog (.region 23 own8_r23X.1 true) Q ⟨F, []⟩ W12 := by
 obtain ⟨dd, hd1, hd2⟩ := Tryd.ruleDesc
 unfold own8_r23X
 dsimp only
 refine wp_region_rw 232 [] [125, 126, 127, 128, 129, 130, 131, 132, 133, 134, 135, 136, 137, 138, 139, 140, 141, 142, 143, 144, 145, 146, 147, 148, 149, 150, 151, 152, 153, 154, 155, 156, 157, 158, 159, 160, 161, 162, 163, 164, 165, 166, 167, 168, 169, 170, 171, 172, 173, 174, 175, 176, 177, 178, 179, 180, 181, 182] (fun _ w' => Ext W12 w') (fun (t : Nat) (wI : World) (v : Value) => match t with | 125 => v = (.bool true) | 126 => v = (.bool false) | 127 => v = (.bool false) | 128 => v = (.pointer (some ⟨b17, 3, none⟩)) | 129 => v = (.slice ap2 P.length cp2) | 130 => v = (.int .i64 (Sp.sumW P)) | 131 => v = (.slice (some ⟨yb, yoff, none⟩) N3 yc) | 132 => v = (.int .i64 (i : Int)) | 133 => v = (.pointer (some ⟨yb, yoff + i * 19, none⟩)) | 134 => v = (.pointer (some ⟨yb, yoff + i * 19 + 3, none⟩)) | 135 => v = (.slice ap3 P.length cp3) | 136 => v = (.int .i64 (Sp.sumW P)) | 137 => v = (.bool false) | 138 => v = (.bool false) | 139 => v = (.bool false) | 140 => v = (.pointer (some ⟨b17, 0, none⟩)) | 141 => v = (.pointer (some ⟨b17, 0, none⟩)) | 142 => v = (.string path) | 143 => v = (.slice (some ⟨yb, yoff, none⟩) N3 yc) | 144 => v = (.int .i64 (i : Int)) | 145 => v = (.pointer (some ⟨yb, yoff + i * 19, none⟩)) | 146 => v = (.pointer (some ⟨yb, yoff + i * 19, none⟩)) | 147 => v = (.pointer (some ⟨yb, yoff + i * 19, none⟩)) | 148 => v = (.string path) | 149 => v = (.bool false) | 150 => v = (.bool false) | 151 => v = (.bool false) | 152 => v = (.agg #[.string path, .bool ex, .slice ah2 H.length ch2, .slice ap2 P.length cp2, .int .i64 mi, .int .i64 ab, .int .i64 de, .int .i64 ti, .string pre, .slice as2 S.length cs2, .slice ad2 D.length cd2, .int .i64 q0, .int .i64 q1, .int .i64 q2, .int .i64 q3, .int .i64 q4, .int .i64 q5, .int .i64 q6, .int .i64 rate]) | 153 => v = (.string s) | 154 => v = (.string (pathR path pre ex s)) | 155 => v = (.slice (some ⟨yb, yoff, none⟩) N3 yc) | 156 => v = (.int .i64 (i : Int)) | 157 => v = (.pointer (some ⟨yb, yoff + i * 19, none⟩)) | 158 => v = (.agg #[.string path, .bool ex, .slice ah3 H.length ch3, .slice ap3 P.length cp3, .int .i64 mi, .int .i64 ab, .int .i64 de, .int .i64 ti, .string pre, .slice as3 S.length cs3, .slice ad3 D.length cd3, .int .i64 q0, .int .i64 q1, .int .i64 q2, .int .i64 q3, .int .i64 q4, .int .i64 q5, .int .i64 q6, .int .i64 rate]) | 159 => v = (.string s) | 160 => v = (.string (pathR path pre ex s)) | 161 => v = (.bool false) | 162 => v = (.bool false) | 163 => v = (.bool false) | 164 => v = (.pointer (some ⟨b17, 11, none⟩)) | 165 => v = (.agg #[.int .i64 q0, .int .i64 q1, .int .i64 q2, .int .i64 q3, .int .i64 q4, .int .i64 q5, .int .i64 q6]) | 166 => v = (.slice (some ⟨yb, yoff, none⟩) N3 yc) | 167 => v = (.int .i64 (i : Int)) | 168 => v = (.pointer (some ⟨yb, yoff + i * 19, none⟩)) | 169 => v = (.pointer (some ⟨yb, yoff + i * 19 + 11, none⟩)) | 170 => v = (.agg #[.int .i64 q0, .int .i64 q1, .int .i64 q2, .int .i64 q3, .int .i64 q4, .int .i64 q5, .int .i64 q6]) | 171 => v = (.bool false) | 172 => v = (.bool false) | 173 => v = (.bool false) | 174 => v = (.pointer (some ⟨b17, 5, none⟩)) | 175 => v = (.agg #[.int .i64 ab, .int .i64 de, .int .i64 ti]) | 176 => v = (.slice (some ⟨yb, yoff, none⟩) N3 yc) | 177 => v = (.int .i64 (i : Int)) | 178 => v = (.pointer (some ⟨yb, yoff + i * 19, none⟩)) | 179 => v = (.pointer (some ⟨yb, yoff + i * 19 + 5, none⟩)) | 180 => v = (.agg #[.int .i64 ab, .int .i64 de, .int .i64 ti]) | 181 => v = (.bool false) | 182 => v = (.bool false) | _ => True) (fun w' w'' => Ext w' w'') (by kernel_rfl) hn (by kernel_rfl) (by kernel_rfl) (by kernel_rfl) (by kernel_rfl) ?_ ?_ ?_ ?_ ?_ ?_ ?_
 ·intro w' w'' h
  exact h
 ·intro t w' w'' v hR hv
  exact hv
 ·intro vs w' w'' h e
  exact Ext.trans h e
 ·exact (Below.refl _ _).drew
 ·intro i o ho hmi vs X w' hpk hph hX hI hF K hK
  have ec : ∀ c, evX 232 X (.const c) = c := fun _ => rfl
  have ef : ∀ c, evX 232 X (.func c) = .func (.func c) #[] #[] := fun _ => rfl
  have hin : i < 58 := (Array.getElem?_eq_some_iff.1 ho).1
  have hi : i = 0 ∨ i = 1 ∨ i = 2 ∨ i = 3 ∨ i = 4 ∨ i = 5 ∨ i = 6 ∨ i = 7 ∨ i = 8 ∨ i = 9 ∨ i = 10 ∨ i = 11 ∨ i = 12 ∨ i = 13 ∨ i = 14 ∨ i = 15 ∨ i = 16 ∨ i = 17 ∨ i = 18 ∨ i = 19 ∨ i = 20 ∨ i = 21 ∨ i = 22 ∨ i = 23 ∨ i = 24 ∨ i = 25 ∨ i = 26 ∨ i = 27 ∨ i = 28 ∨ i = 29 ∨ i = 30 ∨ i = 31 ∨ i = 32 ∨ i = 33 ∨ i = 34 ∨ i = 35 ∨ i = 36 ∨ i = 37 ∨ i = 38 ∨ i = 39 ∨ i = 40 ∨ i = 41 ∨ i = 42 ∨ i = 43 ∨ i = 44 ∨ i = 45 ∨ i = 46 ∨ i = 47 ∨ i = 48 ∨ i = 49 ∨ i = 50 ∨ i = 51 ∨ i = 52 ∨ i = 53 ∨ i = 54 ∨ i = 55 ∨ i = 56 ∨ i = 57 := by omega
  clear hX hpk hmi
  rcases hi with rfl | rfl | rfl | rfl | rfl | rfl | rfl | rfl | rfl | rfl | rfl | rfl | rfl | rfl | rfl | rfl | rfl | rfl | rfl | rfl | rfl | rfl | rfl | rfl | rfl | rfl | rfl | rfl | rfl | rfl | rfl | rfl | rfl | rfl | rfl | rfl | rfl | rfl | rfl | rfl | rfl | rfl | rfl | rfl | rfl | rfl | rfl | rfl | rfl | rfl | rfl | rfl | rfl | rfl | rfl | rfl | rfl | rfl
  ·obtain rfl := Option.some.inj ho
   have e18 : evX 232 X (.tmp 18) = (.bool true) := ev_tmp ((hF 18 (by omega) (by kernel_rfl)).trans f18)
   clear hI hF
   refine arm_val ho (want_none rfl) (.bool true) ?_ (hK.out (.bool true) _ (Below.refl _ _) (fun d hd => by cases hd; exact rfl))
   go_simp
  ·obtain rfl := Option.some.inj ho
   have e125 : evX 232 X (.tmp 125) = (.bool true) := ev_tmp (hI 125 (kdir ho 0 (by kernel_rfl) (by kernel_rfl)) (kdst 0 (by kernel_rfl)))
   clear hI hF
   refine arm_val ho (want_none rfl) (.bool false) ?_ (hK.out (.bool false) _ (Below.refl _ _) (fun d hd => by cases hd; exact rfl))
   go_simp
  ·obtain rfl := Option.some.inj ho
   have e126 : evX 232 X (.tmp 126) = (.bool false) := ev_tmp (hI 126 (kdir ho 1 (by kernel_rfl) (by kernel_rfl)) (kdst 1 (by kernel_rfl)))
   clear hI hF
   refine arm_val ho (want_none rfl) (.bool false) ?_ (hK.out (.bool false) _ (Below.refl _ _) (fun d hd => by cases hd; exact rfl))
   go_simp
  ·obtain rfl := Option.some.inj ho
   have e17 : evX 232 X (.tmp 17) = (.pointer (some ⟨b17, 0, none⟩)) := ev_tmp ((hF 17 (by omega) (by kernel_rfl)).trans f17)
   have eg : X 127 = (.bool false) := hI 127 (kdir ho 2 (by kernel_rfl) (by kernel_rfl)) (kdst 2 (by kernel_rfl))
   clear hI hF
   refine arm_val ho (want_some (d := 127) rfl (by rfl) eg) (.pointer (some ⟨b17, 3, none⟩)) ?_ (hK.out (.pointer (some ⟨b17, 3, none⟩)) _ (Below.refl _ _) (fun d hd => by cases hd; exact rfl))
   go_simp
  ·obtain rfl := Option.some.inj ho
   have e128 : evX 232 X (.tmp 128) = (.pointer (some ⟨b17, 3, none⟩)) := ev_tmp (hI 128 (kdir ho 3 (by kernel_rfl) (by kernel_rfl)) (kdst 3 (by kernel_rfl)))
   have eg : X 127 = (.bool false) := hI 127 (kdir ho 2 (by kernel_rfl) (by kernel_rfl)) (kdst 2 (by kernel_rfl))
   clear hI hF
   have hxe : Ext W12 w' := hph
   have c0 := HC17.out w' hxe 3 _ rfl
   refine arm_val ho (want_some (d := 127) rfl (by rfl) eg) (.slice ap2 P.length cp2) ?_ (hK.out (.slice ap2 P.length cp2) _ (Below.refl _ _) (fun d hd => by cases hd; exact rfl))
   go_simp
  ·obtain rfl := Option.some.inj ho
   have e129 : evX 232 X (.tmp 129) = (.slice ap2 P.length cp2) := ev_tmp (hI 129 (kdir ho 4 (by kernel_rfl) (by kernel_rfl)) (kdst 4 (by kernel_rfl)))
   have eg : X 127 = (.bool false) := hI 127 (kdir ho 2 (by kernel_rfl) (by kernel_rfl)) (kdst 2 (by kernel_rfl))
   clear hI hF
   have hxe : Ext W12 w' := hph
   refine arm_call ho (want_some (d := 127) rfl (by rfl) eg) _ _ (.int .i64 (Sp.sumW P)) ?_ (Calls.mono (Sp.sum_any P _ w' (HO2.out.ext hxe).2.1 HMI.out.2.2) ?_) (fun w9 E9 => hK.out (.int .i64 (Sp.sumW P)) w9 E9 (fun d hd => by cases hd; exact rfl))
   ·(go_simp <;> rfl)
   ·rintro e w9 ⟨rfl, E9⟩
    exact ⟨by first | rfl | simp, E9⟩
  ·obtain rfl := Option.some.inj ho
   have e9 : evX 232 X (.tmp 9) = (.slice (some ⟨yb, yoff, none⟩) N3 yc) := ev_tmp ((hF 9 (by omega) (by kernel_rfl)).trans f9)
   have eg : X 127 = (.bool false) := hI 127 (kdir ho 2 (by kernel_rfl) (by kernel_rfl)) (kdst 2 (by kernel_rfl))
   clear hI hF
   refine arm_val ho (want_some (d := 127) rfl (by rfl) eg) (.slice (some ⟨yb, yoff, none⟩) N3 yc) ?_ (hK.out (.slice (some ⟨yb, yoff, none⟩) N3 yc) _ (Below.refl _ _) (fun d hd => by cases hd; exact rfl))
   go_simp
  ·obtain rfl := Option.some.inj ho
   have e13 : evX 232 X (.tmp 13) = (.int .i64 (i : Int)) := ev_tmp ((hF 13 (by omega) (by kernel_rfl)).trans f13)
   have eg : X 127 = (.bool false) := hI 127 (kdir ho 2 (by kernel_rfl) (by kernel_rfl)) (kdst 2 (by kernel_rfl))
   clear hI hF
   refine arm_val ho (want_some (d := 127) rfl (by rfl) eg) (.int .i64 (i : Int)) ?_ (hK.out (.int .i64 (i : Int)) _ (Below.refl _ _) (fun d hd => by cases hd; exact rfl))
   go_simp
  ·obtain rfl := Option.some.inj ho
   have e131 : evX 232 X (.tmp 131) = (.slice (some ⟨yb, yoff, none⟩) N3 yc) := ev_tmp (hI 131 (kdir ho 6 (by kernel_rfl) (by kernel_rfl)) (kdst 6 (by kernel_rfl)))
   have e132 : evX 232 X (.tmp 132) = (.int .i64 (i : Int)) := ev_tmp (hI 132 (kdir ho 7 (by kernel_rfl) (by kernel_rfl)) (kdst 7 (by kernel_rfl)))
   have eg : X 127 = (.bool false) := hI 127 (kdir ho 2 (by kernel_rfl) (by kernel_rfl)) (kdst 2 (by kernel_rfl))
   clear hI hF
   have q1 := HI0.out.1
   have q2 := HI0.out.2
   refine arm_val ho (want_some (d := 127) rfl (by rfl) eg) (.pointer (some ⟨yb, yoff + i * 19, none⟩)) ?_ (hK.out (.pointer (some ⟨yb, yoff + i * 19, none⟩)) _ (Below.refl _ _) (fun d hd => by cases hd; exact rfl))
   go_simp
  ·obtain rfl := Option.some.inj ho
   have e133 : evX 232 X (.tmp 133) = (.pointer (some ⟨yb, yoff + i * 19, none⟩)) := ev_tmp (hI 133 (kdir ho 8 (by kernel_rfl) (by kernel_rfl)) (kdst 8 (by kernel_rfl)))
   have eg : X 127 = (.bool false) := hI 127 (kdir ho 2 (by kernel_rfl) (by kernel_rfl)) (kdst 2 (by kernel_rfl))
   clear hI hF
   refine arm_val ho (want_some (d := 127) rfl (by rfl) eg) (.pointer (some ⟨yb, yoff + i * 19 + 3, none⟩)) ?_ (hK.out (.pointer (some ⟨yb, yoff + i * 19 + 3, none⟩)) _ (Below.refl _ _) (fun d hd => by cases hd; exact rfl))
   go_simp
  ·obtain rfl := Option.some.inj ho
   have e134 : evX 232 X (.tmp 134) = (.pointer (some ⟨yb, yoff + i * 19 + 3, none⟩)) := ev_tmp (hI 134 (kdir ho 9 (by kernel_rfl) (by kernel_rfl)) (kdst 9 (by kernel_rfl)))
   have eg : X 127 = (.bool false) := hI 127 (kdir ho 2 (by kernel_rfl) (by kernel_rfl)) (kdst 2 (by kernel_rfl))
   clear hI hF
   have hxe : Ext W12 w' := hph
   have c0 := HC3.out w' hxe 3 _ rfl
   refine arm_val ho (want_some (d := 127) rfl (by rfl) eg) (.slice ap3 P.length cp3) ?_ (hK.out (.slice ap3 P.length cp3) _ (Below.refl _ _) (fun d hd => by cases hd; exact rfl))
   go_simp
  ·obtain rfl := Option.some.inj ho
   have e135 : evX 232 X (.tmp 135) = (.slice ap3 P.length cp3) := ev_tmp (hI 135 (kdir ho 10 (by kernel_rfl) (by kernel_rfl)) (kdst 10 (by kernel_rfl)))
   have eg : X 127 = (.bool false) := hI 127 (kdir ho 2 (by kernel_rfl) (by kernel_rfl)) (kdst 2 (by kernel_rfl))
   clear hI hF
   have hxe : Ext W12 w' := hph
   refine arm_call ho (want_some (d := 127) rfl (by rfl) eg) _ _ (.int .i64 (Sp.sumW P)) ?_ (Calls.mono (Sp.sum_any P _ w' (HO3.out.ext hxe).2.1 HMI.out.2.2) ?_) (fun w9 E9 => hK.out (.int .i64 (Sp.sumW P)) w9 E9 (fun d hd => by cases hd; exact rfl))
   ·(go_simp <;> rfl)
   ·rintro e w9 ⟨rfl, E9⟩
    exact ⟨by first | rfl | simp, E9⟩
  ·obtain rfl := Option.some.inj ho
   have e130 : evX 232 X (.tmp 130) = (.int .i64 (Sp.sumW P)) := ev_tmp (hI 130 (kdir ho 5 (by kernel_rfl) (by kernel_rfl)) (kdst 5 (by kernel_rfl)))
   have e136 : evX 232 X (.tmp 136) = (.int .i64 (Sp.sumW P)) := ev_tmp (hI 136 (kdir ho 11 (by kernel_rfl) (by kernel_rfl)) (kdst 11 (by kernel_rfl)))
   have eg : X 127 = (.bool false) := hI 127 (kdir ho 2 (by kernel_rfl) (by kernel_rfl)) (kdst 2 (by kernel_rfl))
   clear hI hF
   refine arm_val ho (want_some (d := 127) rfl (by rfl) eg) (.bool false) ?_ (hK.out (.bool false) _ (Below.refl _ _) (fun d hd => by cases hd; exact rfl))
   go_simp
  ·obtain rfl := Option.some.inj ho
   have e127 : evX 232 X (.tmp 127) = (.bool false) := ev_tmp (hI 127 (kdir ho 2 (by kernel_rfl) (by kernel_rfl)) (kdst 2 (by kernel_rfl)))
   have e137 : evX 232 X (.tmp 137) = (.bool false) := ev_tmp (hI 137 (kdir ho 12 (by kernel_rfl) (by kernel_rfl)) (kdst 12 (by kernel_rfl)))
   clear hI hF
   refine arm_val ho (want_none rfl) (.bool false) ?_ (hK.out (.bool false) _ (Below.refl _ _) (fun d hd => by cases hd; exact rfl))
   go_simp
  ·obtain rfl := Option.some.inj ho
   have e138 : evX 232 X (.tmp 138) = (.bool false) := ev_tmp (hI 138 (kdir ho 13 (by kernel_rfl) (by kernel_rfl)) (kdst 13 (by kernel_rfl)))
   clear hI hF
   refine arm_val ho (want_none rfl) (.bool false) ?_ (hK.out (.bool false) _ (Below.refl _ _) (fun d hd => by cases hd; exact rfl))
   go_simp
  ·obtain rfl := Option.some.inj ho
   have e17 : evX 232 X (.tmp 17) = (.pointer (some ⟨b17, 0, none⟩)) := ev_tmp ((hF 17 (by omega) (by kernel_rfl)).trans f17)
   have eg : X 139 = (.bool false) := hI 139 (kdir ho 14 (by kernel_rfl) (by kernel_rfl)) (kdst 14 (by kernel_rfl))
   clear hI hF
   refine arm_val ho (want_some (d := 139) rfl (by rfl) eg) (.pointer (some ⟨b17, 0, none⟩)) ?_ (hK.out (.pointer (some ⟨b17, 0, none⟩)) _ (Below.refl _ _) (fun d hd => by cases hd; exact rfl))
   go_simp
  ·obtain rfl := Option.some.inj ho
   have e140 : evX 232 X (.tmp 140) = (.pointer (some ⟨b17, 0, none⟩)) := ev_tmp (hI 140 (kdir ho 15 (by kernel_rfl) (by kernel_rfl)) (kdst 15 (by kernel_rfl)))
   have eg : X 139 = (.bool false) := hI 139 (kdir ho 14 (by kernel_rfl) (by kernel_rfl)) (kdst 14 (by kernel_rfl))
   clear hI hF
   refine arm_val ho (want_some (d := 139) rfl (by rfl) eg) (.pointer (some ⟨b17, 0, none⟩)) ?_ (hK.out (.pointer (some ⟨b17, 0, none⟩)) _ (Below.refl _ _) (fun d hd => by cases hd; exact rfl))
   go_simp
  ·obtain rfl := Option.some.inj ho
   have e141 : evX 232 X (.tmp 141) = (.pointer (some ⟨b17, 0, none⟩)) := ev_tmp (hI 141 (kdir ho 16 (by kernel_rfl) (by kernel_rfl)) (kdst 16 (by kernel_rfl)))
   have eg : X 139 = (.bool false) := hI 139 (kdir ho 14 (by kernel_rfl) (by kernel_rfl)) (kdst 14 (by kernel_rfl))
   clear hI hF
   have hxe : Ext W12 w' := hph
   have c0 := HC17.out w' hxe 0 _ rfl
   refine arm_val ho (want_some (d := 139) rfl (by rfl) eg) (.string path) ?_ (hK.out (.string path) _ (Below.refl _ _) (fun d hd => by cases hd; exact rfl))
   go_simp
  ·obtain rfl := Option.some.inj ho
   have e9 : evX 232 X (.tmp 9) = (.slice (some ⟨yb, yoff, none⟩) N3 yc) := ev_tmp ((hF 9 (by omega) (by kernel_rfl)).trans f9)
   have eg : X 139 = (.bool false) := hI 139 (kdir ho 14 (by kernel_rfl) (by kernel_rfl)) (kdst 14 (by kernel_rfl))
   clear hI hF
   refine arm_val ho (want_some (d := 139) rfl (by rfl) eg) (.slice (some ⟨yb, yoff, none⟩) N3 yc) ?_ (hK.out (.slice (some ⟨yb, yoff, none⟩) N3 yc) _ (Below.refl _ _) (fun d hd => by cases hd; exact rfl))
   go_simp
  ·obtain rfl := Option.some.inj ho
   have e13 : evX 232 X (.tmp 13) = (.int .i64 (i : Int)) := ev_tmp ((hF 13 (by omega) (by kernel_rfl)).trans f13)
   have eg : X 139 = (.bool false) := hI 139 (kdir ho 14 (by kernel_rfl) (by kernel_rfl)) (kdst 14 (by kernel_rfl))
   clear hI hF
   refine arm_val ho (want_some (d := 139) rfl (by rfl) eg) (.int .i64 (i : Int)) ?_ (hK.out (.int .i64 (i : Int)) _ (Below.refl _ _) (fun d hd => by cases hd; exact rfl))
   go_simp
  ·obtain rfl := Option.some.inj ho
   have e143 : evX 232 X (.tmp 143) = (.slice (some ⟨yb, yoff, none⟩) N3 yc) := ev_tmp (hI 143 (kdir ho 18 (by kernel_rfl) (by kernel_rfl)) (kdst 18 (by kernel_rfl)))
   have e144 : evX 232 X (.tmp 144) = (.int .i64 (i : Int)) := ev_tmp (hI 144 (kdir ho 19 (by kernel_rfl) (by kernel_rfl)) (kdst 19 (by kernel_rfl)))
   have eg : X 139 = (.bool false) := hI 139 (kdir ho 14 (by kernel_rfl) (by kernel_rfl)) (kdst 14 (by kernel_rfl))
   clear hI hF
   have q1 := HI0.out.1
   have q2 := HI0.out.2
   refine arm_val ho (want_some (d := 139) rfl (by rfl) eg) (.pointer (some ⟨yb, yoff + i * 19, none⟩)) ?_ (hK.out (.pointer (some ⟨yb, yoff + i * 19, none⟩)) _ (Below.refl _ _) (fun d hd => by cases hd; exact rfl))
   go_simp
  ·obtain rfl := Option.some.inj ho
   have e145 : evX 232 X (.tmp 145) = (.pointer (some ⟨yb, yoff + i * 19, none⟩)) := ev_tmp (hI 145 (kdir ho 20 (by kernel_rfl) (by kernel_rfl)) (kdst 20 (by kernel_rfl)))
   have eg : X 139 = (.bool false) := hI 139 (kdir ho 14 (by kernel_rfl) (by kernel_rfl)) (kdst 14 (by kernel_rfl))
   clear hI hF
   refine arm_val ho (want_some (d := 139) rfl (by rfl) eg) (.pointer (some ⟨yb, yoff + i * 19, none⟩)) ?_ (hK.out (.pointer (some ⟨yb, yoff + i * 19, none⟩)) _ (Below.refl _ _) (fun d hd => by cases hd; exact rfl))
   go_simp
  ·obtain rfl := Option.some.inj ho
   have e146 : evX 232 X (.tmp 146) = (.pointer (some ⟨yb, yoff + i * 19, none⟩)) := ev_tmp (hI 146 (kdir ho 21 (by kernel_rfl) (by kernel_rfl)) (kdst 21 (by kernel_rfl)))
   have eg : X 139 = (.bool false) := hI 139 (kdir ho 14 (by kernel_rfl) (by kernel_rfl)) (kdst 14 (by kernel_rfl))
   clear hI hF
   refine arm_val ho (want_some (d := 139) rfl (by rfl) eg) (.pointer (some ⟨yb, yoff + i * 19, none⟩)) ?_ (hK.out (.pointer (some ⟨yb, yoff + i * 19, none⟩)) _ (Below.refl _ _) (fun d hd => by cases hd; exact rfl))
   go_simp
  ·obtain rfl := Option.some.inj ho
   have e147 : evX 232 X (.tmp 147) = (.pointer (some ⟨yb, yoff + i * 19, none⟩)) := ev_tmp (hI 147 (kdir ho 22 (by kernel_rfl) (by kernel_rfl)) (kdst 22 (by kernel_rfl)))
   have eg : X 139 = (.bool false) := hI 139 (kdir ho 14 (by kernel_rfl) (by kernel_rfl)) (kdst 14 (by kernel_rfl))
   clear hI hF
   have hxe : Ext W12 w' := hph
   have c0 : w'.cell? ⟨yb, yoff + i * 19, none⟩ = _ := HC3.out w' hxe 0 _ rfl
   refine arm_val ho (want_some (d := 139) rfl (by rfl) eg) (.string path) ?_ (hK.out (.string path) _ (Below.refl _ _) (fun d hd => by cases hd; exact rfl))
   go_simp
  ·obtain rfl := Option.some.inj ho
   have e142 : evX 232 X (.tmp 142) = (.string path) := ev_tmp (hI 142 (kdir ho 17 (by kernel_rfl) (by kernel_rfl)) (kdst 17 (by kernel_rfl)))
   have e148 : evX 232 X (.tmp 148) = (.string path) := ev_tmp (hI 148 (kdir ho 23 (by kernel_rfl) (by kernel_rfl)) (kdst 23 (by kernel_rfl)))
   have eg : X 139 = (.bool false) := hI 139 (kdir ho 14 (by kernel_rfl) (by kernel_rfl)) (kdst 14 (by kernel_rfl))
   clear hI hF
   refine arm_val ho (want_some (d := 139) rfl (by rfl) eg) (.bool false) ?_ (hK.out (.bool false) _ (Below.refl _ _) (fun d hd => by cases hd; exact rfl))
   go_simp
  ·obtain rfl := Option.some.inj ho
   have e139 : evX 232 X (.tmp 139) = (.bool false) := ev_tmp (hI 139 (kdir ho 14 (by kernel_rfl) (by kernel_rfl)) (kdst 14 (by kernel_rfl)))
   have e149 : evX 232 X (.tmp 149) = (.bool false) := ev_tmp (hI 149 (kdir ho 24 (by kernel_rfl) (by kernel_rfl)) (kdst 24 (by kernel_rfl)))
   clear hI hF
   refine arm_val ho (want_none rfl) (.bool false) ?_ (hK.out (.bool false) _ (Below.refl _ _) (fun d hd => by cases hd; exact rfl))
   go_simp
  ·obtain rfl := Option.some.inj ho
   have e150 : evX 232 X (.tmp 150) = (.bool false) := ev_tmp (hI 150 (kdir ho 25 (by kernel_rfl) (by kernel_rfl)) (kdst 25 (by kernel_rfl)))
   clear hI hF
   refine arm_val ho (want_none rfl) (.bool false) ?_ (hK.out (.bool false) _ (Below.refl _ _) (fun d hd => by cases hd; exact rfl))
   go_simp
  ·obtain rfl := Option.some.inj ho
   have e17 : evX 232 X (.tmp 17) = (.pointer (some ⟨b17, 0, none⟩)) := ev_tmp ((hF 17 (by omega) (by kernel_rfl)).trans f17)
   have eg : X 151 = (.bool false) := hI 151 (kdir ho 26 (by kernel_rfl) (by kernel_rfl)) (kdst 26 (by kernel_rfl))
   clear hI hF
   have hxe : Ext W12 w' := hph
   refine arm_wp ho (want_some (d := 151) rfl (by rfl) eg) (wp_load_mid 43 (.tmp 17) rfl b17 0 ((congrFun (ev_frame _ _ _) _).trans e17) (encR (⟨path, ex, .slice ah2 H.length ch2, H, .slice ap2 P.length cp2, P, mi, ab, de, ti, pre, .slice as2 S.length cs2, S, .slice ad2 D.length cd2, D, q0, q1, q2, q3, q4, q5, q6, rate⟩ : RuleD)) dd (fun j v hv => by rw [Nat.zero_add]; exact HC17.out w' hxe j v hv) hd1 hd2 Tryd.ruleSize (hK.out (.agg #[.string path, .bool ex, .slice ah2 H.length ch2, .slice ap2 P.length cp2, .int .i64 mi, .int .i64 ab, .int .i64 de, .int .i64 ti, .string pre, .slice as2 S.length cs2, .slice ad2 D.length cd2, .int .i64 q0, .int .i64 q1, .int .i64 q2, .int .i64 q3, .int .i64 q4, .int .i64 q5, .int .i64 q6, .int .i64 rate]) _ (Below.refl _ _) (fun d hd => by cases hd; exact rfl)))
  ·obtain rfl := Option.some.inj ho
   have e10 : evX 232 X (.tmp 10) = (.string s) := ev_tmp ((hF 10 (by omega) (by kernel_rfl)).trans f10)
   have eg : X 151 = (.bool false) := hI 151 (kdir ho 26 (by kernel_rfl) (by kernel_rfl)) (kdst 26 (by kernel_rfl))
   clear hI hF
   refine arm_val ho (want_some (d := 151) rfl (by rfl) eg) (.string s) ?_ (hK.out (.string s) _ (Below.refl _ _) (fun d hd => by cases hd; exact rfl))
   go_simp
  ·obtain rfl := Option.some.inj ho
   have e152 : evX 232 X (.tmp 152) = (.agg #[.string path, .bool ex, .slice ah2 H.length ch2, .slice ap2 P.length cp2, .int .i64 mi, .int .i64 ab, .int .i64 de, .int .i64 ti, .string pre, .slice as2 S.length cs2, .slice ad2 D.length cd2, .int .i64 q0, .int .i64 q1, .int .i64 q2, .int .i64 q3, .int .i64 q4, .int .i64 q5, .int .i64 q6, .int .i64 rate]) := ev_tmp (hI 152 (kdir ho 27 (by kernel_rfl) (by kernel_rfl)) (kdst 27 (by kernel_rfl)))
   have e153 : evX 232 X (.tmp 153) = (.string s) := ev_tmp (hI 153 (kdir ho 28 (by kernel_rfl) (by kernel_rfl)) (kdst 28 (by kernel_rfl)))
   have eg : X 151 = (.bool false) := hI 151 (kdir ho 26 (by kernel_rfl) (by kernel_rfl)) (kdst 26 (by kernel_rfl))
   clear hI hF
   have hxe : Ext W12 w' := hph
   refine arm_call ho (want_some (d := 151) rfl (by rfl) eg) _ _ (.string (pathR path pre ex s)) ?_ (Calls.mono (rpath_any (⟨path, ex, .slice ah2 H.length ch2, H, .slice ap2 P.length cp2, P, mi, ab, de, ti, pre, .slice as2 S.length cs2, S, .slice ad2 D.length cd2, D, q0, q1, q2, q3, q4, q5, q6, rate⟩ : RuleD) s w' ⟨_, _, _, rfl⟩ HMI.out.1 HMI.out.2.1 HSZ.out (HM.out.ext hxe)) ?_) (fun w9 E9 => hK.out (.string (pathR path pre ex s)) w9 E9 (fun d hd => by cases hd; exact rfl))
   ·(go_simp <;> rfl)
   ·rintro e w9 ⟨rfl, E9⟩
    exact ⟨by first | rfl | simp, E9⟩
  ·obtain rfl := Option.some.inj ho
   have e9 : evX 232 X (.tmp 9) = (.slice (some ⟨yb, yoff, none⟩) N3 yc) := ev_tmp ((hF 9 (by omega) (by kernel_rfl)).trans f9)
   have eg : X 151 = (.bool false) := hI 151 (kdir ho 26 (by kernel_rfl) (by kernel_rfl)) (kdst 26 (by kernel_rfl))
   clear hI hF
   refine arm_val ho (want_some (d := 151) rfl (by rfl) eg) (.slice (some ⟨yb, yoff, none⟩) N3 yc) ?_ (hK.out (.slice (some ⟨yb, yoff, none⟩) N3 yc) _ (Below.refl _ _) (fun d hd => by cases hd; exact rfl))
   go_simp
  ·obtain rfl := Option.some.inj ho
   have e13 : evX 232 X (.tmp 13) = (.int .i64 (i : Int)) := ev_tmp ((hF 13 (by omega) (by kernel_rfl)).trans f13)
   have eg : X 151 = (.bool false) := hI 151 (kdir ho 26 (by kernel_rfl) (by kernel_rfl)) (kdst 26 (by kernel_rfl))
   clear hI hF
   refine arm_val ho (want_some (d := 151) rfl (by rfl) eg) (.int .i64 (i : Int)) ?_ (hK.out (.int .i64 (i : Int)) _ (Below.refl _ _) (fun d hd => by cases hd; exact rfl))
   go_simp
  ·obtain rfl := Option.some.inj ho
   have e155 : evX 232 X (.tmp 155) = (.slice (some ⟨yb, yoff, none⟩) N3 yc) := ev_tmp (hI 155 (kdir ho 30 (by kernel_rfl) (by kernel_rfl)) (kdst 30 (by kernel_rfl)))
   have e156 : evX 232 X (.tmp 156) = (.int .i64 (i : Int)) := ev_tmp (hI 156 (kdir ho 31 (by kernel_rfl) (by kernel_rfl)) (kdst 31 (by kernel_rfl)))
   have eg : X 151 = (.bool false) := hI 151 (kdir ho 26 (by kernel_rfl) (by kernel_rfl)) (kdst 26 (by kernel_rfl))
   clear hI hF
   have q1 := HI0.out.1
   have q2 := HI0.out.2
   refine arm_val ho (want_some (d := 151) rfl (by rfl) eg) (.pointer (some ⟨yb, yoff + i * 19, none⟩)) ?_ (hK.out (.pointer (some ⟨yb, yoff + i * 19, none⟩)) _ (Below.refl _ _) (fun d hd => by cases hd; exact rfl))
   go_simp
  ·obtain rfl := Option.some.inj ho
   have e157 : evX 232 X (.tmp 157) = (.pointer (some ⟨yb, yoff + i * 19, none⟩)) := ev_tmp (hI 157 (kdir ho 32 (by kernel_rfl) (by kernel_rfl)) (kdst 32 (by kernel_rfl)))
   have eg : X 151 = (.bool false) := hI 151 (kdir ho 26 (by kernel_rfl) (by kernel_rfl)) (kdst 26 (by kernel_rfl))
   clear hI hF
   have hxe : Ext W12 w' := hph
   refine arm_wp ho (want_some (d := 151) rfl (by rfl) eg) (wp_load_mid 43 (.tmp 157) rfl yb (yoff + i * 19) ((congrFun (ev_frame _ _ _) _).trans e157) (encR (⟨path, ex, .slice ah3 H.length ch3, H, .slice ap3 P.length cp3, P, mi, ab, de, ti, pre, .slice as3 S.length cs3, S, .slice ad3 D.length cd3, D, q0, q1, q2, q3, q4, q5, q6, rate⟩ : RuleD)) dd (fun j v hv => HC3.out w' hxe j v hv) hd1 hd2 Tryd.ruleSize (hK.out (.agg #[.string path, .bool ex, .slice ah3 H.length ch3, .slice ap3 P.length cp3, .int .i64 mi, .int .i64 ab, .int .i64 de, .int .i64 ti, .string pre, .slice as3 S.length cs3, .slice ad3 D.length cd3, .int .i64 q0, .int .i64 q1, .int .i64 q2, .int .i64 q3, .int .i64 q4, .int .i64 q5, .int .i64 q6, .int .i64 rate]) _ (Below.refl _ _) (fun d hd => by cases hd; exact rfl)))
  ·obtain rfl := Option.some.inj ho
   have e10 : evX 232 X (.tmp 10) = (.string s) := ev_tmp ((hF 10 (by omega) (by kernel_rfl)).trans f10)
   have eg : X 151 = (.bool false) := hI 151 (kdir ho 26 (by kernel_rfl) (by kernel_rfl)) (kdst 26 (by kernel_rfl))
   clear hI hF
   refine arm_val ho (want_some (d := 151) rfl (by rfl) eg) (.string s) ?_ (hK.out (.string s) _ (Below.refl _ _) (fun d hd => by cases hd; exact rfl))
   go_simp
  ·obtain rfl := Option.some.inj ho
   have e158 : evX 232 X (.tmp 158) = (.agg #[.string path, .bool ex, .slice ah3 H.length ch3, .slice ap3 P.length cp3, .int .i64 mi, .int .i64 ab, .int .i64 de, .int .i64 ti, .string pre, .slice as3 S.length cs3, .slice ad3 D.length cd3, .int .i64 q0, .int .i64 q1, .int .i64 q2, .int .i64 q3, .int .i64 q4, .int .i64 q5, .int .i64 q6, .int .i64 rate]) := ev_tmp (hI 158 (kdir ho 33 (by kernel_rfl) (by kernel_rfl)) (kdst 33 (by kernel_rfl)))
   have e159 : evX 232 X (.tmp 159) = (.string s) := ev_tmp (hI 159 (kdir ho 34 (by kernel_rfl) (by kernel_rfl)) (kdst 34 (by kernel_rfl)))
   have eg : X 151 = (.bool false) := hI 151 (kdir ho 26 (by kernel_rfl) (by kernel_rfl)) (kdst 26 (by kernel_rfl))
   clear hI hF
   have hxe : Ext W12 w' := hph
   refine arm_call ho (want_some (d := 151) rfl (by rfl) eg) _ _ (.string (pathR path pre ex s)) ?_ (Calls.mono (rpath_any (⟨path, ex, .slice ah3 H.length ch3, H, .slice ap3 P.length cp3, P, mi, ab, de, ti, pre, .slice as3 S.length cs3, S, .slice ad3 D.length cd3, D, q0, q1, q2, q3, q4, q5, q6, rate⟩ : RuleD) s w' ⟨_, _, _, rfl⟩ HMI.out.1 HMI.out.2.1 HSZ.out (HM.out.ext hxe)) ?_) (fun w9 E9 => hK.out (.string (pathR path pre ex s)) w9 E9 (fun d hd => by cases hd; exact rfl))
   ·(go_simp <;> rfl)
   ·rintro e w9 ⟨rfl, E9⟩
    exact ⟨by first | rfl | simp, E9⟩
  ·obtain rfl := Option.some.inj ho
   have e154 : evX 232 X (.tmp 154) = (.string (pathR path pre ex s)) := ev_tmp (hI 154 (kdir ho 29 (by kernel_rfl) (by kernel_rfl)) (kdst 29 (by kernel_rfl)))
   have e160 : evX 232 X (.tmp 160) = (.string (pathR path pre ex s)) := ev_tmp (hI 160 (kdir ho 35 (by kernel_rfl) (by kernel_rfl)) (kdst 35 (by kernel_rfl)))
   have eg : X 151 = (.bool false) := hI 151 (kdir ho 26 (by kernel_rfl) (by kernel_rfl)) (kdst 26 (by kernel_rfl))
   clear hI hF
   refine arm_val ho (want_some (d := 151) rfl (by rfl) eg) (.bool false) ?_ (hK.out (.bool false) _ (Below.refl _ _) (fun d hd => by cases hd; exact rfl))
   go_simp
  ·obtain rfl := Option.some.inj ho
   have e151 : evX 232 X (.tmp 151) = (.bool false) := ev_tmp (hI 151 (kdir ho 26 (by kernel_rfl) (by kernel_rfl)) (kdst 26 (by kernel_rfl)))
   have e161 : evX 232 X (.tmp 161) = (.bool false) := ev_tmp (hI 161 (kdir ho 36 (by kernel_rfl) (by kernel_rfl)) (kdst 36 (by kernel_rfl)))
   clear hI hF
   refine arm_val ho (want_none rfl) (.bool false) ?_ (hK.out (.bool false) _ (Below.refl _ _) (fun d hd => by cases hd; exact rfl))
   go_simp
  ·obtain rfl := Option.some.inj ho
   have e162 : evX 232 X (.tmp 162) = (.bool false) := ev_tmp (hI 162 (kdir ho 37 (by kernel_rfl) (by kernel_rfl)) (kdst 37 (by kernel_rfl)))
   clear hI hF
   refine arm_val ho (want_none rfl) (.bool false) ?_ (hK.out (.bool false) _ (Below.refl _ _) (fun d hd => by cases hd; exact rfl))
   go_simp
  ·obtain rfl := Option.some.inj ho
   have e17 : evX 232 X (.tmp 17) = (.pointer (some ⟨b17, 0, none⟩)) := ev_tmp ((hF 17 (by omega) (by kernel_rfl)).trans f17)
   have eg : X 163 = (.bool false) := hI 163 (kdir ho 38 (by kernel_rfl) (by kernel_rfl)) (kdst 38 (by kernel_rfl))
   clear hI hF
   refine arm_val ho (want_some (d := 163) rfl (by rfl) eg) (.pointer (some ⟨b17, 11, none⟩)) ?_ (hK.out (.pointer (some ⟨b17, 11, none⟩)) _ (Below.refl _ _) (fun d hd => by cases hd; exact rfl))
   go_simp
  ·obtain rfl := Option.some.inj ho
   have e164 : evX 232 X (.tmp 164) = (.pointer (some ⟨b17, 11, none⟩)) := ev_tmp (hI 164 (kdir ho 39 (by kernel_rfl) (by kernel_rfl)) (kdst 39 (by kernel_rfl)))
   have eg : X 163 = (.bool false) := hI 163 (kdir ho 38 (by kernel_rfl) (by kernel_rfl)) (kdst 38 (by kernel_rfl))
   clear hI hF
   have hxe : Ext W12 w' := hph
   have c0 := HC17.out w' hxe 11 _ rfl
   have c1 := HC17.out w' hxe 12 _ rfl
   have c2 := HC17.out w' hxe 13 _ rfl
   have c3 := HC17.out w' hxe 14 _ rfl
   have c4 := HC17.out w' hxe 15 _ rfl
   have c5 := HC17.out w' hxe 16 _ rfl
   have c6 := HC17.out w' hxe 17 _ rfl
   refine arm_val ho (want_some (d := 163) rfl (by rfl) eg) (.agg #[.int .i64 q0, .int .i64 q1, .int .i64 q2, .int .i64 q3, .int .i64 q4, .int .i64 q5, .int .i64 q6]) ?_ (hK.out (.agg #[.int .i64 q0, .int .i64 q1, .int .i64 q2, .int .i64 q3, .int .i64 q4, .int .i64 q5, .int .i64 q6]) _ (Below.refl _ _) (fun d hd => by cases hd; exact rfl))
   go_simp
  ·obtain rfl := Option.some.inj ho
   have e9 : evX 232 X (.tmp 9) = (.slice (some ⟨yb, yoff, none⟩) N3 yc) := ev_tmp ((hF 9 (by omega) (by kernel_rfl)).trans f9)
   have eg : X 163 = (.bool false) := hI 163 (kdir ho 38 (by kernel_rfl) (by kernel_rfl)) (kdst 38 (by kernel_rfl))
   clear hI hF
   refine arm_val ho (want_some (d := 163) rfl (by rfl) eg) (.slice (some ⟨yb, yoff, none⟩) N3 yc) ?_ (hK.out (.slice (some ⟨yb, yoff, none⟩) N3 yc) _ (Below.refl _ _) (fun d hd => by cases hd; exact rfl))
   go_simp
  ·obtain rfl := Option.some.inj ho
   have e13 : evX 232 X (.tmp 13) = (.int .i64 (i : Int)) := ev_tmp ((hF 13 (by omega) (by kernel_rfl)).trans f13)
   have eg : X 163 = (.bool false) := hI 163 (kdir ho 38 (by kernel_rfl) (by kernel_rfl)) (kdst 38 (by kernel_rfl))
   clear hI hF
   refine arm_val ho (want_some (d := 163) rfl (by rfl) eg) (.int .i64 (i : Int)) ?_ (hK.out (.int .i64 (i : Int)) _ (Below.refl _ _) (fun d hd => by cases hd; exact rfl))
   go_simp
  ·obtain rfl := Option.some.inj ho
   have e166 : evX 232 X (.tmp 166) = (.slice (some ⟨yb, yoff, none⟩) N3 yc) := ev_tmp (hI 166 (kdir ho 41 (by kernel_rfl) (by kernel_rfl)) (kdst 41 (by kernel_rfl)))
   have e167 : evX 232 X (.tmp 167) = (.int .i64 (i : Int)) := ev_tmp (hI 167 (kdir ho 42 (by kernel_rfl) (by kernel_rfl)) (kdst 42 (by kernel_rfl)))
   have eg : X 163 = (.bool false) := hI 163 (kdir ho 38 (by kernel_rfl) (by kernel_rfl)) (kdst 38 (by kernel_rfl))
   clear hI hF
   have q1 := HI0.out.1
   have q2 := HI0.out.2
   refine arm_val ho (want_some (d := 163) rfl (by rfl) eg) (.pointer (some ⟨yb, yoff + i * 19, none⟩)) ?_ (hK.out (.pointer (some ⟨yb, yoff + i * 19, none⟩)) _ (Below.refl _ _) (fun d hd => by cases hd; exact rfl))
   go_simp
  ·obtain rfl := Option.some.inj ho
   have e168 : evX 232 X (.tmp 168) = (.pointer (some ⟨yb, yoff + i * 19, none⟩)) := ev_tmp (hI 168 (kdir ho 43 (by kernel_rfl) (by kernel_rfl)) (kdst 43 (by kernel_rfl)))
   have eg : X 163 = (.bool false) := hI 163 (kdir ho 38 (by kernel_rfl) (by kernel_rfl)) (kdst 38 (by kernel_rfl))
   clear hI hF
   refine arm_val ho (want_some (d := 163) rfl (by rfl) eg) (.pointer (some ⟨yb, yoff + i * 19 + 11, none⟩)) ?_ (hK.out (.pointer (some ⟨yb, yoff + i * 19 + 11, none⟩)) _ (Below.refl _ _) (fun d hd => by cases hd; exact rfl))
   go_simp
  ·obtain rfl := Option.some.inj ho
   have e169 : evX 232 X (.tmp 169) = (.pointer (some ⟨yb, yoff + i * 19 + 11, none⟩)) := ev_tmp (hI 169 (kdir ho 44 (by kernel_rfl) (by kernel_rfl)) (kdst 44 (by kernel_rfl)))
   have eg : X 163 = (.bool false) := hI 163 (kdir ho 38 (by kernel_rfl) (by kernel_rfl)) (kdst 38 (by kernel_rfl))
   clear hI hF
   have hxe : Ext W12 w' := hph
   have c0 := HC3.out w' hxe 11 _ rfl
   have c1 := HC3.out w' hxe 12 _ rfl
   have c2 := HC3.out w' hxe 13 _ rfl
   have c3 := HC3.out w' hxe 14 _ rfl
   have c4 := HC3.out w' hxe 15 _ rfl
   have c5 := HC3.out w' hxe 16 _ rfl
   have c6 := HC3.out w' hxe 17 _ rfl
   refine arm_val ho (want_some (d := 163) rfl (by rfl) eg) (.agg #[.int .i64 q0, .int .i64 q1, .int .i64 q2, .int .i64 q3, .int .i64 q4, .int .i64 q5, .int .i64 q6]) ?_ (hK.out (.agg #[.int .i64 q0, .int .i64 q1, .int .i64 q2, .int .i64 q3, .int .i64 q4, .int .i64 q5, .int .i64 q6]) _ (Below.refl _ _) (fun d hd => by cases hd; exact rfl))
   go_simp
  ·obtain rfl := Option.some.inj ho
   have e165 : evX 232 X (.tmp 165) = (.agg #[.int .i64 q0, .int .i64 q1, .int .i64 q2, .int .i64 q3, .int .i64 q4, .int .i64 q5, .int .i64 q6]) := ev_tmp (hI 165 (kdir ho 40 (by kernel_rfl) (by kernel_rfl)) (kdst 40 (by kernel_rfl)))
   have e170 : evX 232 X (.tmp 170) = (.agg #[.int .i64 q0, .int .i64 q1, .int .i64 q2, .int .i64 q3, .int .i64 q4, .int .i64 q5, .int .i64 q6]) := ev_tmp (hI 170 (kdir ho 45 (by kernel_rfl) (by kernel_rfl)) (kdst 45 (by kernel_rfl)))
   have eg : X 163 = (.bool false) := hI 163 (kdir ho 38 (by kernel_rfl) (by kernel_rfl)) (kdst 38 (by kernel_rfl))
   clear hI hF
   refine arm_val ho (want_some (d := 163) rfl (by rfl) eg) (.bool false) ?_ (hK.out (.bool false) _ (Below.refl _ _) (fun d hd => by cases hd; exact rfl))
   go_simp
  ·obtain rfl := Option.some.inj ho
   have e163 : evX 232 X (.tmp 163) = (.bool false) := ev_tmp (hI 163 (kdir ho 38 (by kernel_rfl) (by kernel_rfl)) (kdst 38 (by kernel_rfl)))
   have e171 : evX 232 X (.tmp 171) = (.bool false) := ev_tmp (hI 171 (kdir ho 46 (by kernel_rfl) (by kernel_rfl)) (kdst 46 (by kernel_rfl)))
   clear hI hF
   refine arm_val ho (want_none rfl) (.bool false) ?_ (hK.out (.bool false) _ (Below.refl _ _) (fun d hd => by cases hd; exact rfl))
   go_simp
  ·obtain rfl := Option.some.inj ho
   have e172 : evX 232 X (.tmp 172) = (.bool false) := ev_tmp (hI 172 (kdir ho 47 (by kernel_rfl) (by kernel_rfl)) (kdst 47 (by kernel_rfl)))
   clear hI hF
   refine arm_val ho (want_none rfl) (.bool false) ?_ (hK.out (.bool false) _ (Below.refl _ _) (fun d hd => by cases hd; exact rfl))
   go_simp
  ·obtain rfl := Option.some.inj ho
   have e17 : evX 232 X (.tmp 17) = (.pointer (some ⟨b17, 0, none⟩)) := ev_tmp ((hF 17 (by omega) (by kernel_rfl)).trans f17)
   have eg : X 173 = (.bool false) := hI 173 (kdir ho 48 (by kernel_rfl) (by kernel_rfl)) (kdst 48 (by kernel_rfl))
   clear hI hF
   refine arm_val ho (want_some (d := 173) rfl (by rfl) eg) (.pointer (some ⟨b17, 5, none⟩)) ?_ (hK.out (.pointer (some ⟨b17, 5, none⟩)) _ (Below.refl _ _) (fun d hd => by cases hd; exact rfl))
   go_simp
  ·obtain rfl := Option.some.inj ho
   have e174 : evX 232 X (.tmp 174) = (.pointer (some ⟨b17, 5, none⟩)) := ev_tmp (hI 174 (kdir ho 49 (by kernel_rfl) (by kernel_rfl)) (kdst 49 (by kernel_rfl)))
   have eg : X 173 = (.bool false) := hI 173 (kdir ho 48 (by kernel_rfl) (by kernel_rfl)) (kdst 48 (by kernel_rfl))
   clear hI hF
   have hxe : Ext W12 w' := hph
   have c0 := HC17.out w' hxe 5 _ rfl
   have c1 := HC17.out w' hxe 6 _ rfl
   have c2 := HC17.out w' hxe 7 _ rfl
   refine arm_val ho (want_some (d := 173) rfl (by rfl) eg) (.agg #[.int .i64 ab, .int .i64 de, .int .i64 ti]) ?_ (hK.out (.agg #[.int .i64 ab, .int .i64 de, .int .i64 ti]) _ (Below.refl _ _) (fun d hd => by cases hd; exact rfl))
   go_simp
  ·obtain rfl := Option.some.inj ho
   have e9 : evX 232 X (.tmp 9) = (.slice (some ⟨yb, yoff, none⟩) N3 yc) := ev_tmp ((hF 9 (by omega) (by kernel_rfl)).trans f9)
   have eg : X 173 = (.bool false) := hI 173 (kdir ho 48 (by kernel_rfl) (by kernel_rfl)) (kdst 48 (by kernel_rfl))
   clear hI hF
   refine arm_val ho (want_some (d := 173) rfl (by rfl) eg) (.slice (some ⟨yb, yoff, none⟩) N3 yc) ?_ (hK.out (.slice (some ⟨yb, yoff, none⟩) N3 yc) _ (Below.refl _ _) (fun d hd => by cases hd; exact rfl))
   go_simp
  ·obtain rfl := Option.some.inj ho
   have e13 : evX 232 X (.tmp 13) = (.int .i64 (i : Int)) := ev_tmp ((hF 13 (by omega) (by kernel_rfl)).trans f13)
   have eg : X 173 = (.bool false) := hI 173 (kdir ho 48 (by kernel_rfl) (by kernel_rfl)) (kdst 48 (by kernel_rfl))
   clear hI hF
   refine arm_val ho (want_some (d := 173) rfl (by rfl) eg) (.int .i64 (i : Int)) ?_ (hK.out (.int .i64 (i : Int)) _ (Below.refl _ _) (fun d hd => by cases hd; exact rfl))
   go_simp
  ·obtain rfl := Option.some.inj ho
   have e176 : evX 232 X (.tmp 176) = (.slice (some ⟨yb, yoff, none⟩) N3 yc) := ev_tmp (hI 176 (kdir ho 51 (by kernel_rfl) (by kernel_rfl)) (kdst 51 (by kernel_rfl)))
   have e177 : evX 232 X (.tmp 177) = (.int .i64 (i : Int)) := ev_tmp (hI 177 (kdir ho 52 (by kernel_rfl) (by kernel_rfl)) (kdst 52 (by kernel_rfl)))
   have eg : X 173 = (.bool false) := hI 173 (kdir ho 48 (by kernel_rfl) (by kernel_rfl)) (kdst 48 (by kernel_rfl))
   clear hI hF
   have q1 := HI0.out.1
   have q2 := HI0.out.2
   refine arm_val ho (want_some (d := 173) rfl (by rfl) eg) (.pointer (some ⟨yb, yoff + i * 19, none⟩)) ?_ (hK.out (.pointer (some ⟨yb, yoff + i * 19, none⟩)) _ (Below.refl _ _) (fun d hd => by cases hd; exact rfl))
   go_simp
  ·obtain rfl := Option.some.inj ho
   have e178 : evX 232 X (.tmp 178) = (.pointer (some ⟨yb, yoff + i * 19, none⟩)) := ev_tmp (hI 178 (kdir ho 53 (by kernel_rfl) (by kernel_rfl)) (kdst 53 (by kernel_rfl)))
   have eg : X 173 = (.bool false) := hI 173 (kdir ho 48 (by kernel_rfl) (by kernel_rfl)) (kdst 48 (by kernel_rfl))
   clear hI hF
   refine arm_val ho (want_some (d := 173) rfl (by rfl) eg) (.pointer (some ⟨yb, yoff + i * 19 + 5, none⟩)) ?_ (hK.out (.pointer (some ⟨yb, yoff + i * 19 + 5, none⟩)) _ (Below.refl _ _) (fun d hd => by cases hd; exact rfl))
   go_simp
  ·obtain rfl := Option.some.inj ho
   have e179 : evX 232 X (.tmp 179) = (.pointer (some ⟨yb, yoff + i * 19 + 5, none⟩)) := ev_tmp (hI 179 (kdir ho 54 (by kernel_rfl) (by kernel_rfl)) (kdst 54 (by kernel_rfl)))
   have eg : X 173 = (.bool false) := hI 173 (kdir ho 48 (by kernel_rfl) (by kernel_rfl)) (kdst 48 (by kernel_rfl))
   clear hI hF
   have hxe : Ext W12 w' := hph
   have c0 := HC3.out w' hxe 5 _ rfl
   have c1 := HC3.out w' hxe 6 _ rfl
   have c2 := HC3.out w' hxe 7 _ rfl
   refine arm_val ho (want_some (d := 173) rfl (by rfl) eg) (.agg #[.int .i64 ab, .int .i64 de, .int .i64 ti]) ?_ (hK.out (.agg #[.int .i64 ab, .int .i64 de, .int .i64 ti]) _ (Below.refl _ _) (fun d hd => by cases hd; exact rfl))
   go_simp
  ·obtain rfl := Option.some.inj ho
   have e175 : evX 232 X (.tmp 175) = (.agg #[.int .i64 ab, .int .i64 de, .int .i64 ti]) := ev_tmp (hI 175 (kdir ho 50 (by kernel_rfl) (by kernel_rfl)) (kdst 50 (by kernel_rfl)))
   have e180 : evX 232 X (.tmp 180) = (.agg #[.int .i64 ab, .int .i64 de, .int .i64 ti]) := ev_tmp (hI 180 (kdir ho 55 (by kernel_rfl) (by kernel_rfl)) (kdst 55 (by kernel_rfl)))
   have eg : X 173 = (.bool false) := hI 173 (kdir ho 48 (by kernel_rfl) (by kernel_rfl)) (kdst 48 (by kernel_rfl))
   clear hI hF
   refine arm_val ho (want_some (d := 173) rfl (by rfl) eg) (.bool false) ?_ (hK.out (.bool false) _ (Below.refl _ _) (fun d hd => by cases hd; exact rfl))
   go_simp
  ·obtain rfl := Option.some.inj ho
   have e173 : evX 232 X (.tmp 173) = (.bool false) := ev_tmp (hI 173 (kdir ho 48 (by kernel_rfl) (by kernel_rfl)) (kdst 48 (by kernel_rfl)))
   have e181 : evX 232 X (.tmp 181) = (.bool false) := ev_tmp (hI 181 (kdir ho 56 (by kernel_rfl) (by kernel_rfl)) (kdst 56 (by kernel_rfl)))
   clear hI hF
   refine arm_val ho (want_none rfl) (.bool false) ?_ (hK.out (.bool false) _ (Below.refl _ _) (fun d hd => by cases hd; exact rfl))
   go_simp
 ·intro i o ho hmi vs X w' hqi hql hph hX hI hF K hK
  exact absurd hql (Nat.not_lt_zero _)
 ·intro vs X w' hlen hph hX hI
  have e182 : X 182 = _ := hI 182 (by omega) (by kernel_rfl) (by kernel_rfl)
  exact hQ X w' hph e182

end Go.Proofs.YtceaeiaoanhlnaaDoor
