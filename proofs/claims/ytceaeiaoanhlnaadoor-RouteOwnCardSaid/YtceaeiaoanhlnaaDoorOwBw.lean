import Derived.Test.YtceaeiaoanhlnaaDoorOwAw
import Derived.Test.YtceaeiaoanhlnaaDoorZrww
namespace Go.Proofs.YtceaeiaoanhlnaaDoor
open Go.ChangeShapes Go.WideShapes Go.ChangeAt Go.RowKit Go.Lib Go.Shelf
theorem parts_le {mp p : ByteArray} (h : beginsB (bl p) (bl mp) = true) : (rparts mp).length ≤ (rparts p).length := by
 by_cases h0 : bl mp = [] ∨ bl mp = [47]
 ·rw [rparts_none h0]; exact Nat.zero_le _
 ·have hne : bl mp ≠ [] := fun e => h0 (.inl e)
  have hnr : bl mp ≠ [47] := fun e => h0 (.inr e)
  unfold beginsB at h
  rw [Bool.or_eq_true, Bool.and_eq_true] at h
  rcases h with h | ⟨h, -⟩
  ·exact absurd (by simpa using h) hnr
  ·unfold Lib.hasPrefix at h
   obtain ⟨t, ht⟩ := List.isPrefixOf_iff_prefix.1 h
   have hp : ¬ (bl p = [] ∨ bl p = [47]) := by
    rintro (e | e)
    ·rw [e] at ht
     exact hne (List.append_eq_nil_iff.1 ht).1
    ·rw [e] at ht
     rcases List.append_eq_singleton_iff.1 ht with ⟨a, -⟩ | ⟨a, -⟩
     ·exact hne a
     ·exact hnr a
   have hl1 : 1 ≤ (bl mp).length := List.length_pos_iff.2 hne
   rw [rparts_len h0, rparts_len hp, ← ht, List.drop_append_of_le_length hl1, List.count_append]
   omega
/-- what a path becomes -/
def pathR (path pre : ByteArray) (ex : Bool) (p : ByteArray) : ByteArray :=
 if bl pre = [] ∨ onB (bl path) ex (bl p) = false then p else if ex = true then pre
 else if bl (putP (putP ⟨#[]⟩ (rparts pre)) ((rparts p).drop (rparts path).length)) = [] then ⟨#[47]⟩
 else if 60 < (putP (putP ⟨#[]⟩ (rparts pre)) ((rparts p).drop (rparts path).length)).size then p
 else putP (putP ⟨#[]⟩ (rparts pre)) ((rparts p).drop (rparts path).length)
/-! ## the walk -/
set_option maxRecDepth 100000 in
theorem frame48 (x : Nat → Value) : frameOf 48 x = #[x 0, x 1, x 2, x 3, x 4, x 5, x 6, x 7, x 8, x 9, x 10, x 11, x 12, x 13, x 14, x 15, x 16, x 17, x 18, x 19, x 20, x 21, x 22, x 23, x 24, x 25, x 26, x 27, x 28, x 29, x 30, x 31, x 32, x 33, x 34, x 35, x 36, x 37, x 38, x 39, x 40, x 41, x 42, x 43, x 44, x 45, x 46, x 47] := rfl
/-- behind the call that puts the rest of the parts -/
def PhPut (W : World) (b : Nat) (o : ByteArray) : List Value → World → Prop
 | [], w => Ext W w
 | _ :: _, w => BoxS w b o ∧ Keeps (fun q => q = b) W w
theorem PhPut.ext {W : World} {b : Nat} {o : ByteArray} : ∀ {vs : List Value} {w w' : World}, PhPut W b o vs w → Ext w w' → PhPut W b o vs w'
 | [], _, _, h, e => Ext.trans (show Ext W _ from h) e
 | _ :: _, _, _, ⟨h1, h2⟩, e => ⟨h1.ext e, h2.trans (Keeps.of_ext e)⟩
theorem Tryd.infoS1 : (Tryd.prog.info? 9).map (·.size) = some 1 := by kernel_rfl
theorem info_S1 : ∃ i, Tryd.prog.info? 9 = some i ∧ i.size = 1 := by
 have h := Tryd.infoS1
 cases h1 : Tryd.prog.info? 9 with
 | none => rw [h1] at h; cases h
 | some i => rw [h1] at h; exact ⟨i, rfl, Option.some.inj h⟩
set_option maxRecDepth 100000 in
set_option maxHeartbeats 16000000 in
theorem rpath_any (r : RuleD) (p : ByteArray) (w : World) (hsl : ∃ a n c, r.hv = .slice a n c) (hpath : r.path.size ≤ 62) (hpre : r.pre.size ≤ 62) (hp : p.size ≤ 62) (hm : MaxV w) :
  Calls Tryd.prog 14 #[r.val, .string p] w fun e w' => e = .returned (.string (pathR r.path r.pre r.ex p)) ∧ Ext w w' := by
 obtain ⟨si, hsi, hs1⟩ := info_S1
 obtain ⟨path, ex, hv, H, pv, P, mi, ab, de, ti, pre, sv, S, dv, D, q0, q1, q2, q3, q4, q5, q6, rate⟩ := r
 obtain ⟨ah, nh, ch, rfl⟩ := hsl
 have hx1 : Ext w (w.alloc (.cells #[.string path, .bool ex, .slice ah nh ch, pv, .int .i64 mi, .int .i64 ab, .int .i64 de, .int .i64 ti, .string pre, sv, dv, .int .i64 q0, .int .i64 q1, .int .i64 q2, .int .i64 q3, .int .i64 q4, .int .i64 q5, .int .i64 q6, .int .i64 rate] 43)) := (Below.refl _ w).alloc (Nat.le_refl _) _
 have hb1 := heap_alloc_new w (.cells #[.string path, .bool ex, .slice ah nh ch, pv, .int .i64 mi, .int .i64 ab, .int .i64 de, .int .i64 ti, .string pre, sv, dv, .int .i64 q0, .int .i64 q1, .int .i64 q2, .int .i64 q3, .int .i64 q4, .int .i64 q5, .int .i64 q6, .int .i64 rate] 43)
 have hcx : ∀ X, Ext (w.alloc (.cells #[.string path, .bool ex, .slice ah nh ch, pv, .int .i64 mi, .int .i64 ab, .int .i64 de, .int .i64 ti, .string pre, sv, dv, .int .i64 q0, .int .i64 q1, .int .i64 q2, .int .i64 q3, .int .i64 q4, .int .i64 q5, .int .i64 q6, .int .i64 rate] 43)) X → X.cell? ⟨w.heap.size, 0, none⟩ = some (.string path) ∧ X.cell? ⟨w.heap.size, 1, none⟩ = some (.bool ex) ∧ X.cell? ⟨w.heap.size, 2, none⟩ = some (.slice ah nh ch) ∧ X.cell? ⟨w.heap.size, 8, none⟩ = some (.string pre) := fun X hX => by
  have hb := (hX.block _ (Array.getElem?_eq_some_iff.1 hb1).1).trans hb1
  refine ⟨?_, ?_, ?_, ?_⟩ <;> (simp only [World.cell?]; rw [hb]; rfl)
 have HZ := hide (show path.size ≤ 1000 ∧ pre.size ≤ 1000 ∧ p.size ≤ 1000 from ⟨by have : path.size ≤ 62 := hpath; omega, by have : pre.size ≤ 62 := hpre; omega, by omega⟩)
 have HZ2 := hide (show path.size ≤ 62 ∧ pre.size ≤ 62 ∧ p.size ≤ 62 from ⟨hpath, hpre, hp⟩)
 have hp63 : p.size ≤ 9223372036854775807 := by omega
 have hon := fun X (hX : Ext w X) => on_any path p ex (.slice ah nh ch) X hp63 (hm.ext hX) ⟨_, _, _, rfl⟩
 have HM := hide hm
 show Calls Tryd.prog 14 #[.agg #[.string path, .bool ex, .slice ah nh ch, pv, .int .i64 mi, .int .i64 ab, .int .i64 de, .int .i64 ti, .string pre, sv, dv, .int .i64 q0, .int .i64 q1, .int .i64 q2, .int .i64 q3, .int .i64 q4, .int .i64 q5, .int .i64 q6, .int .i64 rate], .string p] w fun e w' => e = .returned (.string (pathR path pre ex p)) ∧ Ext w w'
 obtain ⟨q, hq⟩ : ∃ q, pathR path pre ex p = q := ⟨_, rfl⟩
 rw [hq]
 have HX1 := hide hx1
 clear hpath hpre hp hm hp63
 by_cases he : bl pre = []
 ·have h1 : (pre.toList == []) = true := by rw [toL]; show (bl pre == []) = true; rw [he]; rfl
  have h2 : pre.toList.isEmpty = true := by rw [toL]; show (bl pre).isEmpty = true; rw [he]; rfl
  have HQ := hide (show p = q by rw [← hq]; unfold pathR; rw [if_pos (.inl he)])
  obtain ⟨c0, c1, c2, c3⟩ := hcx _ (Below.refl _ _)
  clear he hq hon hcx hb1 hx1
  go_enter Tryd.func14, Tryd.ntmps14
  go_upto_region 1 with (fail)
  generalize w.alloc (.cells #[.string path, .bool ex, .slice ah nh ch, pv, .int .i64 mi, .int .i64 ab, .int .i64 de, .int .i64 ti, .string pre, sv, dv, .int .i64 q0, .int .i64 q1, .int .i64 q2, .int .i64 q3, .int .i64 q4, .int .i64 q5, .int .i64 q6, .int .i64 rate] 43) = W1 at HX1 c0 c1 c2 c3 ⊢
  go_wp2
  go_ret
  exact ⟨by rw [HQ.out]; rfl, HX1.out⟩
 have h1 : (pre.toList == []) = false := by rw [toL]; show (bl pre == []) = false; simpa using he
 have h2 : pre.toList.isEmpty = false := by rw [toL]; show (bl pre).isEmpty = false; simpa using he
 have HCX := hide hcx
 clear hcx hb1 hx1
 go_enter Tryd.func14, Tryd.ntmps14
 go_upto_region 1 with (fail)
 generalize w.alloc (.cells #[.string path, .bool ex, .slice ah nh ch, pv, .int .i64 mi, .int .i64 ab, .int .i64 de, .int .i64 ti, .string pre, sv, dv, .int .i64 q0, .int .i64 q1, .int .i64 q2, .int .i64 q3, .int .i64 q4, .int .i64 q5, .int .i64 q6, .int .i64 rate] 43) = W1 at HX1 HCX ⊢
 have hb2' : w.heap.size < W1.heap.size := World.block_lt_of_cell? W1 _ (HCX.out _ (Below.refl _ _)).1
 obtain ⟨b2, hb2⟩ : ∃ b, w.heap.size = b := ⟨_, rfl⟩
 rw [hb2] at hb2'
 simp only [hb2] at HCX ⊢
 obtain ⟨c0, c1, c2, c3⟩ := HCX.out _ (Below.refl _ _)
 by_cases hono : onB (bl path) ex (bl p) = false
 ·have hon1 := hon W1 HX1.out
  rw [hono] at hon1
  have HON := hide hon1
  have HQ := hide (show p = q by rw [← hq]; unfold pathR; rw [if_pos (.inr hono)])
  clear hon hon1 hono hq he
  go_wp2_with fail
  refine HON.out.mono ?_
  rintro e w2 ⟨rfl, E2⟩
  have HE := hide (HX1.out.trans E2)
  clear E2
  go_wp2
  go_ret
  exact ⟨by rw [HQ.out]; rfl, HE.out⟩
 have hono : onB (bl path) ex (bl p) = true := by simpa using hono
 have hon1 := hon W1 HX1.out
 rw [hono] at hon1
 have HON := hide hon1
 cases ex with
 | true =>
  have HQ := hide (show pre = q by rw [← hq]; unfold pathR; rw [if_neg (by simp [he, hono]), if_pos rfl])
  clear hon hon1 hono hq he
  go_wp2_with fail
  refine HON.out.mono ?_
  rintro e w2 ⟨rfl, E2⟩
  have HE := hide (HX1.out.trans E2)
  obtain ⟨c0, c1, c2, c3⟩ := HCX.out _ E2
  clear E2
  go_wp2
  go_ret
  exact ⟨by rw [HQ.out]; rfl, HE.out⟩
 | false =>
  have hbeg : beginsB (bl p) (bl path) = true := by
   unfold onB at hono
   rw [Bool.and_eq_true] at hono
   simpa using hono.2
  have HLE := hide (parts_le hbeg)
  have hq1 : pathR path pre false p = (if bl (putP (putP ⟨#[]⟩ (rparts pre)) ((rparts p).drop (rparts path).length)) = [] then ⟨#[47]⟩ else if 60 < (putP (putP ⟨#[]⟩ (rparts pre)) ((rparts p).drop (rparts path).length)).size then p else putP (putP ⟨#[]⟩ (rparts pre)) ((rparts p).drop (rparts path).length)) := by
   unfold pathR
   rw [if_neg (by simp [he, hono]), if_neg (by simp)]
  have hq' := hq1.symm.trans hq
  clear hq1
  have HLP := hide (show (rparts pre).length ≤ 2000 ∧ ∀ x ∈ rparts pre, x.size ≤ 1000 from ⟨by have := rparts_le pre; have := HZ2.out.2.1; omega, fun x hx => by have := rparts_size pre x hx; have := HZ2.out.2.1; omega⟩)
  have HLN := hide (show ((rparts p).drop (rparts path).length).length ≤ 2000 by have := rparts_le p; have := HZ2.out.2.2; rw [List.length_drop]; omega)
  have HLS := hide (show ∀ x ∈ (rparts p).drop (rparts path).length, x.size ≤ 1000 from fun x hx => by have := rparts_size p x (List.mem_of_mem_drop hx); have := HZ2.out.2.2; omega)
  have ho1 : (putP ⟨#[]⟩ (rparts pre)).size ≤ 100000 := by
   have h3 := putP_size 62 (rparts pre) ⟨#[]⟩ fun x hx => by have := rparts_size pre x hx; have := HZ2.out.2.1; omega
   have h4 := rparts_le pre
   have h5 := HZ2.out.2.1
   have h6 : (⟨#[]⟩ : ByteArray).size = 0 := rfl
   have h7 : (rparts pre).length * (62 + 1) ≤ 63 * 63 := Nat.mul_le_mul (by omega) (by omega)
   omega
  have hfs : (putP (putP ⟨#[]⟩ (rparts pre)) ((rparts p).drop (rparts path).length)).size ≤ 9000000 := by
   have h3 := putP_size 62 ((rparts p).drop (rparts path).length) (putP ⟨#[]⟩ (rparts pre)) fun x hx => by have := rparts_size p x (List.mem_of_mem_drop hx); have := HZ2.out.2.2; omega
   have h4 := rparts_le p
   have h5 := HZ2.out.2.2
   have h7 : ((rparts p).drop (rparts path).length).length * (62 + 1) ≤ 63 * 63 := Nat.mul_le_mul (by rw [List.length_drop]; omega) (by omega)
   omega
  have HQ := hide hq'
  have HFS := hide hfs
  clear hon hon1 hono hq he hbeg hq' hfs
  go_wp2_with fail
  refine HON.out.mono ?_
  rintro e w2 ⟨rfl, E2⟩
  have HX2 := hide (HX1.out.trans E2)
  have HE2 := hide E2
  have hb5n := heap_alloc_new w2 (.cells #[.string ⟨#[]⟩] 9)
  have hx3 : Ext w2 (w2.alloc (.cells #[.string ⟨#[]⟩] 9)) := (Below.refl _ w2).alloc (Nat.le_refl _) _
  obtain ⟨c0, c1, c2, c3⟩ := HCX.out _ E2
  clear E2 HON
  go_upto_region 6 with (fail)
  generalize w2.alloc (.cells #[.string ⟨#[]⟩] 9) = W3 at hb5n hx3 ⊢
  obtain ⟨b5, hb5⟩ : ∃ b, w2.heap.size = b := ⟨_, rfl⟩
  rw [hb5] at hb5n ⊢
  have hbx3 : BoxS W3 b5 ⟨#[]⟩ := hb5n
  have hb25 : b2 < b5 := by have := HE2.out.size; omega
  have HE3 := hide (HE2.out.trans hx3)
  have HX3 := hide (HX1.out.trans HE3.out)
  have HB3 := hide hbx3
  obtain ⟨c0, c1, c2, c3⟩ := HCX.out _ HE3.out
  have HPP := hide (parts_any pre b5 W3 hbx3.lt HZ.out.2.1 (HM.out.ext HX3.out))
  clear hb5n hx3 hbx3 hb5 HE2 HX2
  go_wp2_with fail
  refine HPP.out.mono ?_
  rintro e w4 ⟨v4, rfl, h4, E4⟩
  obtain ⟨-, a4, c4, hv4⟩ := h4.now.shape
  subst hv4
  have HPU := hide (put_any (rparts pre) _ ⟨#[]⟩ b5 w4 h4 (HB3.out.ext E4) HLP.out.1 (by show 0 ≤ 4000000; omega) HLP.out.2)
  have HE4 := hide (HE3.out.trans E4)
  clear h4 E4 HPP
  go_wp2_with fail
  refine HPU.out.mono ?_
  rintro e W4 ⟨rfl, hb4, hk4⟩
  have hcell : ∀ X, Ext W4 X → X.cell? ⟨b2, 0, none⟩ = some (.string path) := fun X hX => (hX.cell (p := ⟨b2, 0, none⟩) (Nat.lt_of_lt_of_le (Nat.lt_of_lt_of_le hb2' HE4.out.size) hk4.size)).trans ((hk4.cell (p := ⟨b2, 0, none⟩) (Nat.lt_of_lt_of_le hb2' HE4.out.size) (show ¬ b2 = b5 by omega)).trans (HCX.out _ HE4.out).1)
  have hEW : Ext w W4 := Keeps.ext (HX1.out.trans HE4.out) hk4 (fun g hg => by omega)
  have HCELL := hide hcell
  have HEW := hide hEW
  obtain ⟨o1, ho1'⟩ : ∃ o, putP ⟨#[]⟩ (rparts pre) = o := ⟨_, rfl⟩
  simp only [ho1'] at HQ HFS
  rw [ho1'] at ho1 hb4
  have HB5 := hide hb4
  have HO1 := hide (show o1.size ≤ 4000000 by omega)
  clear hcell hEW hb4 hk4 HPU HB3 HE4 HE3 HX3 ho1 ho1' c0 c1 c2 c3
  go_upto_region 8 with (fail)
  refine wp_region_rw 48 [9] [29, 30, 31, 32, 33, 34, 35, 36, 37, 38] (PhPut W4 b5 (putP o1 ((rparts p).drop (rparts path).length))) (fun (t : Nat) (wI : World) (v : Value) => match t with | 29 => v = (.func (.func 31) #[] #[.pointer (some ⟨b5, 0, none⟩)]) | 30 => v = (.string p) | 31 => ∃ a c, v = .slice a (rparts p).length c ∧ Texts b5 wI v (rparts p) | 32 => v = (.pointer (some ⟨b2, 0, none⟩)) | 33 => v = (.pointer (some ⟨b2, 0, none⟩)) | 34 => v = (.string path) | 35 => ∃ a c, v = .slice a (rparts path).length c | 36 => v = (.int .i64 (rparts path).length) | 37 => Texts b5 wI v ((rparts p).drop (rparts path).length) | _ => True) (fun w' w'' => Keeps (fun q => q = b5) w' w'') (by kernel_rfl) rfl (by kernel_rfl) (by kernel_rfl) (by kernel_rfl) (by kernel_rfl) ?_ ?_ ?_ ?_ ?_ ?_ ?_
  ·intro w' w'' h
   exact Keeps.of_ext h
  ·intro t w' w'' v hR hv
   split at hv <;> first | exact hv | (obtain ⟨a, c, h1, h2⟩ := hv; exact ⟨a, c, h1, h2.keep hR⟩) | (exact hv.keep hR)
  ·intro vs w' w'' h e
   exact h.ext e
  ·exact (Below.refl _ _).drew
  ·intro i o ho hmi vs X w' hpk hph hX hI hF K hK
   have hin : i < 10 := (Array.getElem?_eq_some_iff.1 ho).1
   have hi : i = 0 ∨ i = 1 ∨ i = 2 ∨ i = 3 ∨ i = 4 ∨ i = 5 ∨ i = 6 ∨ i = 7 ∨ i = 8 ∨ i = 9 := by omega
   rcases hi with rfl | rfl | rfl | rfl | rfl | rfl | rfl | rfl | rfl | rfl
   ·obtain rfl := Option.some.inj ho
    have e6 : X 6 = (.func (.func 31) #[] #[.pointer (some ⟨b5, 0, none⟩)]) := hF 6 (by omega) (by kernel_rfl)
    unfold wpOp
    simp only [ho]
    rw [if_pos (by rfl)]
    left
    rw [frame48]
    go_simp
    refine metK (hK.out ((.func (.func 31) #[] #[.pointer (some ⟨b5, 0, none⟩)])) _ (Below.refl _ _) (fun d hd => by cases hd; exact rfl)) ?_
    simp [frame48, Act.put, *]
   ·obtain rfl := Option.some.inj ho
    have e1 : X 1 = (.string p) := hF 1 (by omega) (by kernel_rfl)
    unfold wpOp
    simp only [ho]
    rw [if_pos (by rfl)]
    left
    rw [frame48]
    go_simp
    refine metK (hK.out ((.string p)) _ (Below.refl _ _) (fun d hd => by cases hd; exact rfl)) ?_
    simp [frame48, Act.put, *]
   ·obtain rfl := Option.some.inj ho
    have e30 : X 30 = _ := hI 30 (by kernel_rfl) (by kernel_rfl)
    rcases vs with _ | ⟨v0, _⟩
    rotate_left
    ·exact absurd ((hpk 0 (by decide)).2 (by kernel_rfl)) (by simp)
    have hxe : Ext W4 w' := hph
    unfold wpOp
    simp only [ho]
    rw [if_pos (by rfl)]
    left
    rw [frame48]
    go_simp
    refine (parts_any p b5 w' (Nat.lt_of_lt_of_le HB5.out.lt hxe.size) HZ.out.2.2 (HM.out.ext (HEW.out.trans hxe))).mono ?_
    rintro e w9 ⟨v9, rfl, h9, E9⟩
    obtain ⟨-, a9, c9, hv9⟩ := h9.now.shape
    refine metK (hK.out v9 w9 E9 (fun d hd => by cases hd; exact ⟨a9, c9, hv9, h9⟩)) ?_
    simp [frame48, Act.put, *]
   ·obtain rfl := Option.some.inj ho
    have e2 : X 2 = (.pointer (some ⟨b2, 0, none⟩)) := hF 2 (by omega) (by kernel_rfl)
    unfold wpOp
    simp only [ho]
    rw [if_pos (by rfl)]
    left
    rw [frame48]
    go_simp
    refine metK (hK.out ((.pointer (some ⟨b2, 0, none⟩))) _ (Below.refl _ _) (fun d hd => by cases hd; exact rfl)) ?_
    simp [frame48, Act.put, *]
   ·obtain rfl := Option.some.inj ho
    have e32 : X 32 = _ := hI 32 (by kernel_rfl) (by kernel_rfl)
    unfold wpOp
    simp only [ho]
    rw [if_pos (by rfl)]
    left
    rw [frame48]
    go_simp
    refine metK (hK.out ((.pointer (some ⟨b2, 0, none⟩))) _ (Below.refl _ _) (fun d hd => by cases hd; exact rfl)) ?_
    simp [frame48, Act.put, *]
   ·obtain rfl := Option.some.inj ho
    have e33 : X 33 = _ := hI 33 (by kernel_rfl) (by kernel_rfl)
    rcases vs with _ | ⟨v0, _⟩
    rotate_left
    ·exact absurd ((hpk 0 (by decide)).2 (by kernel_rfl)) (by simp)
    have hxe : Ext W4 w' := hph
    have c0 := HCELL.out w' hxe
    unfold wpOp
    simp only [ho]
    rw [if_pos (by rfl)]
    left
    rw [frame48]
    go_simp
    refine metK (hK.out ((.string path)) _ (Below.refl _ _) (fun d hd => by cases hd; exact rfl)) ?_
    simp [frame48, Act.put, *]
   ·obtain rfl := Option.some.inj ho
    have e34 : X 34 = _ := hI 34 (by kernel_rfl) (by kernel_rfl)
    rcases vs with _ | ⟨v0, _⟩
    rotate_left
    ·exact absurd ((hpk 0 (by decide)).2 (by kernel_rfl)) (by simp)
    have hxe : Ext W4 w' := hph
    unfold wpOp
    simp only [ho]
    rw [if_pos (by rfl)]
    left
    rw [frame48]
    go_simp
    refine (parts_any path b5 w' (Nat.lt_of_lt_of_le HB5.out.lt hxe.size) HZ.out.1 (HM.out.ext (HEW.out.trans hxe))).mono ?_
    rintro e w9 ⟨v9, rfl, h9, E9⟩
    obtain ⟨-, a9, c9, hv9⟩ := h9.now.shape
    refine metK (hK.out v9 w9 E9 (fun d hd => by cases hd; exact ⟨a9, c9, hv9⟩)) ?_
    simp [frame48, Act.put, *]
   ·obtain rfl := Option.some.inj ho
    have y35 := hI 35 (by kernel_rfl) (by kernel_rfl)
    obtain ⟨a9, c9, hv9⟩ := y35
    unfold wpOp
    simp only [ho]
    rw [if_pos (by rfl)]
    left
    rw [frame48]
    simp only [hv9]
    go_simp
    refine metK (hK.out (.int .i64 (rparts path).length) _ (Below.refl _ _) (fun d hd => by cases hd; exact rfl)) ?_
    simp [frame48, Act.put, *]
   ·obtain rfl := Option.some.inj ho
    have y31 := hI 31 (by kernel_rfl) (by kernel_rfl)
    have e36 : X 36 = _ := hI 36 (by kernel_rfl) (by kernel_rfl)
    obtain ⟨a9, c9, hv9, hT⟩ := y31
    have hle := HLE.out
    rw [hv9] at hT
    have hT1 := hT.drop hle
    have hrun := run_slice_low Tryd.underlying37 hsi hs1 a9 (rparts p).length c9 (rparts path).length hle w'
    obtain ⟨v1, hv1⟩ : ∃ v1, Value.slice (if c9 = (rparts path).length then a9 else a9.map (·.add ((rparts path).length * 1))) ((rparts p).length - (rparts path).length) (c9 - (rparts path).length) = v1 := ⟨_, rfl⟩
    rw [hv1] at hT1 hrun
    unfold wpOp
    simp only [ho]
    rw [if_pos (by rfl)]
    left
    rw [frame48]
    simp only [hv9]
    go_simp
    refine metK (hK.out v1 _ (Below.refl _ _) (fun d hd => by cases hd; exact hT1)) ?_
    simp [frame48, Act.put, *]
   ·exact absurd hmi (by decide)
  ·intro i o ho hmi vs X w' hqi hql hph hX hI hF K hK
   rcases vs with _ | ⟨v0, _⟩
   ·obtain rfl : 9 = i := hqi
    obtain rfl := Option.some.inj ho
    have e29 : X 29 = _ := hI 29 (by kernel_rfl) (by kernel_rfl)
    have y37 := hI 37 (by kernel_rfl) (by kernel_rfl)
    have hxe : Ext W4 w' := hph
    have hput := put_any _ _ o1 b5 w' y37 (HB5.out.ext hxe) HLN.out HO1.out HLS.out
    unfold wpOp
    simp only [ho]
    rw [if_pos (by rfl)]
    left
    rw [frame48]
    go_simp
    refine hput.mono ?_
    rintro e w9 ⟨rfl, h9, k9⟩
    refine metK (hK.out (.tuple #[]) w9 ⟨h9, (Keeps.of_ext hxe).trans k9⟩ k9) ?_
    simp [frame48, Act.put, *]
   ·simp at hql <;> omega
  ·intro vs X w' hlen hph hX hI
   have e29 : X 29 = _ := hI 29 (by omega) (by kernel_rfl) (by kernel_rfl)
   have e30 : X 30 = _ := hI 30 (by omega) (by kernel_rfl) (by kernel_rfl)
   have y31 := hI 31 (by omega) (by kernel_rfl) (by kernel_rfl)
   have e32 : X 32 = _ := hI 32 (by omega) (by kernel_rfl) (by kernel_rfl)
   have e33 : X 33 = _ := hI 33 (by omega) (by kernel_rfl) (by kernel_rfl)
   have e34 : X 34 = _ := hI 34 (by omega) (by kernel_rfl) (by kernel_rfl)
   have y35 := hI 35 (by omega) (by kernel_rfl) (by kernel_rfl)
   have e36 : X 36 = _ := hI 36 (by omega) (by kernel_rfl) (by kernel_rfl)
   have y37 := hI 37 (by omega) (by kernel_rfl) (by kernel_rfl)
   rcases vs with _ | ⟨v0, _ | ⟨vz, vs⟩⟩
   ·simp at hlen
   rotate_left
   ·simp at hlen
   have e38 : X 38 = v0 := hX 0 38 (by simp) (by kernel_rfl)
   clear hX hI hlen
   simp only [overF, List.foldl_cons, List.foldl_nil, List.setIfInBounds_toArray, List.set_cons_succ, List.set_cons_zero, e29, e30, e32, e33, e34, e36, e38]
   obtain ⟨hb9, hk9⟩ := hph
   clear y31 y35 y37 e29 e30 e32 e33 e34 e36
   generalize X 31 = x31
   generalize X 35 = x35
   generalize X 37 = x37
   generalize w' = W5 at *
   have HK9 := hide hk9
   have HB9 := hide hb9
   have HEF := hide (Keeps.ext HEW.out hk9 (fun g hg => by omega))
   obtain ⟨o2, ho2⟩ : ∃ o, putP o1 ((rparts p).drop (rparts path).length) = o := ⟨_, rfl⟩
   simp only [ho2] at HQ HFS HB9
   have c5 := HB9.out.cell
   have hq := HQ.out
   clear hk9 hb9 ho2
   by_cases hemp : bl o2 = []
   ·have h3 : (o2.toList == []) = true := by rw [toL]; show (bl o2 == []) = true; rw [hemp]; rfl
    have h4 : o2.toList.isEmpty = true := by rw [toL]; show (bl o2).isEmpty = true; rw [hemp]; rfl
    rw [if_pos hemp] at hq
    have HQ2 := hide hq
    clear hq hemp
    go_wp2
    go_ret
    exact ⟨by rw [HQ2.out]; rfl, HEF.out⟩
   ·have h3 : (o2.toList == []) = false := by rw [toL]; show (bl o2 == []) = false; simpa using hemp
    have h4 : o2.toList.isEmpty = false := by rw [toL]; show (bl o2).isEmpty = false; simpa using hemp
    rw [if_neg hemp] at hq
    by_cases h60 : 60 < o2.size
    ·have h60z : (o2.size : Int) > 60 := by omega
     rw [if_pos h60] at hq
     have HQ2 := hide hq
     clear hq hemp h60
     go_wp2
     go_ret
     exact ⟨by rw [HQ2.out]; rfl, HEF.out⟩
    ·have h60z : ¬ (o2.size : Int) > 60 := by omega
     rw [if_neg h60] at hq
     have HQ2 := hide hq
     clear hq hemp h60
     go_wp2
     go_ret
     exact ⟨by rw [HQ2.out]; rfl, HEF.out⟩
end Go.Proofs.YtceaeiaoanhlnaaDoor
