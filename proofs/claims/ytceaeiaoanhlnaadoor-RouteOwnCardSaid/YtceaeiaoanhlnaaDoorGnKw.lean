import Derived.Test.YtceaeiaoanhlnaaDoorZrlw
namespace Go.Proofs.YtceaeiaoanhlnaaDoor
open Go.ChangeShapes Go.WideShapes Go.ChangeAt Go.RowKit Go.Lib Go.Shelf
def plainR (s : ByteArray) (ex : Bool) : RuleD := ⟨s, ex, .slice none 0 0, [], .slice none 0 0, [(1, 1)], 0, 0, 0, 0, ⟨#[]⟩, .slice none 0 0, [], .slice none 0 0, [], 10, 1, 0, 0, 0, 1, 0, 0⟩
theorem plain_fit (s : ByteArray) (ex : Bool) (h : s.size ≤ 100) : RuleFit (plainR s ex) := by
 refine ⟨?_, Nat.zero_le _, fun x hx => absurd hx List.not_mem_nil, fun x hx => absurd hx List.not_mem_nil, fun x hx => absurd hx List.not_mem_nil, ?_, show (1 : Nat) ≤ 1000000 by omega⟩
 ·unfold SzB plainR
  simp only
  omega
 ·intro x hx
  rw [List.mem_singleton.1 hx]
  decide
set_option maxRecDepth 100000 in
set_option maxHeartbeats 8000000 in
theorem plain_any (s : ByteArray) (ex : Bool) (w : World) :
  Calls Tryd.prog 33 #[.string s, .bool ex] w fun e w' => ∃ r, e = .returned r.val ∧ r.core = plainR s ex ∧ RuleOwn w.heap.size w' r ∧ Ext w w' := by
 obtain ⟨dd, hd1, hd2⟩ := Tryd.ruleDesc
 go_enter Tryd.func33, Tryd.ntmps33
 go_upto_region 1 with (fail)
 have hb0 := heap_alloc_new w (.cells #[.string ⟨#[]⟩, .bool false, .slice none 0 0, .slice none 0 0, .int .i64 0, .int .i64 0, .int .i64 0, .int .i64 0, .string ⟨#[]⟩, .slice none 0 0, .slice none 0 0, .int .i64 0, .int .i64 0, .int .i64 0, .int .i64 0, .int .i64 0, .int .i64 0, .int .i64 0, .int .i64 0] 43)
 have hx0 : Ext w (w.alloc (.cells #[.string ⟨#[]⟩, .bool false, .slice none 0 0, .slice none 0 0, .int .i64 0, .int .i64 0, .int .i64 0, .int .i64 0, .string ⟨#[]⟩, .slice none 0 0, .slice none 0 0, .int .i64 0, .int .i64 0, .int .i64 0, .int .i64 0, .int .i64 0, .int .i64 0, .int .i64 0, .int .i64 0] 43)) := (Below.refl _ w).alloc (Nat.le_refl _) _
 generalize w.alloc (.cells #[.string ⟨#[]⟩, .bool false, .slice none 0 0, .slice none 0 0, .int .i64 0, .int .i64 0, .int .i64 0, .int .i64 0, .string ⟨#[]⟩, .slice none 0 0, .slice none 0 0, .int .i64 0, .int .i64 0, .int .i64 0, .int .i64 0, .int .i64 0, .int .i64 0, .int .i64 0, .int .i64 0] 43) = W1 at *
 have HB0 := hide hb0
 have HX0 := hide hx0
 clear hb0 hx0
 refine wp_region_lit ?_
 refine wpList_plain rfl fun K hK => ?_
 go_simp
 refine hK _ _ ?_
 refine wpList_plain rfl fun K hK => ?_
 go_simp
 refine hK _ _ ?_
 refine wpList_plain rfl fun K hK => ?_
 go_simp
 refine hK _ _ ?_
 refine wpList_plain rfl fun K hK => ?_
 go_simp
 refine hK _ _ ?_
 refine wpList_plain rfl fun K hK => ?_
 go_simp
 refine hK _ _ ?_
 refine wpList_plain rfl fun K hK => ?_
 go_simp
 refine hK _ _ ?_
 refine wpList_plain rfl fun K hK => ?_
 go_simp
 refine hK _ _ ?_
 refine wpList_plain rfl fun K hK => ?_
 go_simp
 refine hK _ _ ?_
 have hxp : Ext W1 (W1.alloc (.cells #[.int .i64 1, .int .i64 1] 45)) := (Below.refl _ W1).alloc (Nat.le_refl _) _
 have hpo := World.ownsRow_lit (base := w.heap.size) (e := 45) (size := 2) W1 #[.int .i64 1, .int .i64 1] 1 HX0.out.size (by unfold maxLen; omega) rfl
 have hb1 := (hxp.block _ (Array.getElem?_eq_some_iff.1 HB0.out).1).trans HB0.out
 have hw1 : w.heap.size < W1.heap.size := (Array.getElem?_eq_some_iff.1 HB0.out).1
 have hth : (W1.alloc (.cells #[.int .i64 1, .int .i64 1] 45)).there w.heap.size 0 19 := fun j hj => by
  rw [Nat.zero_add]
  refine ⟨?_, by simp only [World.frozen?, hb1]; simp⟩
  simp only [World.cell?, hb1]
  simp [hj]
 refine wpList_store_mid rfl 43 (.tmp 4) (.tmp 12) rfl w.heap.size 0 (#[.string s, .bool ex, .slice none 0 0, .slice (some ⟨W1.heap.size, 0, none⟩) 1 1, .int .i64 0, .int .i64 0, .int .i64 0, .int .i64 0, .string ⟨#[]⟩, .slice none 0 0, .slice none 0 0, .int .i64 10, .int .i64 1, .int .i64 0, .int .i64 0, .int .i64 0, .int .i64 1, .int .i64 0, .int .i64 0]) rfl rfl hth Tryd.ruleSize (by simp [Value.oneCell']) ?_
 refine wpList_nil ?_
 have hrs := World.rangeAt_setCells_same (W1.alloc (.cells #[.int .i64 1, .int .i64 1] 45)) w.heap.size 0 [.string s, .bool ex, .slice none 0 0, .slice (some ⟨W1.heap.size, 0, none⟩) 1 1, .int .i64 0, .int .i64 0, .int .i64 0, .int .i64 0, .string ⟨#[]⟩, .slice none 0 0, .slice none 0 0, .int .i64 10, .int .i64 1, .int .i64 0, .int .i64 0, .int .i64 0, .int .i64 1, .int .i64 0, .int .i64 0] hth
 have hk5 := keeps_setCells w.heap.size [.string s, .bool ex, .slice none 0 0, .slice (some ⟨W1.heap.size, 0, none⟩) 1 1, .int .i64 0, .int .i64 0, .int .i64 0, .int .i64 0, .string ⟨#[]⟩, .slice none 0 0, .slice none 0 0, .int .i64 10, .int .i64 1, .int .i64 0, .int .i64 0, .int .i64 0, .int .i64 1, .int .i64 0, .int .i64 0] 0 (W1.alloc (.cells #[.int .i64 1, .int .i64 1] 45))
 show Exit.then _ _ _ _ ((W1.alloc (.cells #[.int .i64 1, .int .i64 1] 45)).setCells w.heap.size 0 [.string s, .bool ex, .slice none 0 0, .slice (some ⟨W1.heap.size, 0, none⟩) 1 1, .int .i64 0, .int .i64 0, .int .i64 0, .int .i64 0, .string ⟨#[]⟩, .slice none 0 0, .slice none 0 0, .int .i64 10, .int .i64 1, .int .i64 0, .int .i64 0, .int .i64 0, .int .i64 1, .int .i64 0, .int .i64 0])
 simp only [Act.put]
 have hpk := owns_keeps hpo hk5 (fun g hg e => by
  have : g = W1.heap.size := by cases hg; rfl
  omega)
 have hEk := Keeps.ext (HX0.out.trans hxp) hk5 (fun g hg => by omega)
 generalize (W1.alloc (.cells #[.int .i64 1, .int .i64 1] 45)).setCells w.heap.size 0 [.string s, .bool ex, .slice none 0 0, .slice (some ⟨W1.heap.size, 0, none⟩) 1 1, .int .i64 0, .int .i64 0, .int .i64 0, .int .i64 0, .string ⟨#[]⟩, .slice none 0 0, .slice none 0 0, .int .i64 10, .int .i64 1, .int .i64 0, .int .i64 0, .int .i64 0, .int .i64 1, .int .i64 0, .int .i64 0] = W2 at *
 have HRG := hide hrs
 have HPK := hide hpk
 have HEK := hide hEk
 clear hrs hk5 hpk hEk hth hpo hb1 hxp
 go_wp2_with (fail)
 (try simp only [Exit.inBlock, Exit.then])
 refine bodyPost_ret (results_cell_mid rfl _ _ w.heap.size 0 [.string s, .bool ex, .slice none 0 0, .slice (some ⟨W1.heap.size, 0, none⟩) 1 1, .int .i64 0, .int .i64 0, .int .i64 0, .int .i64 0, .string ⟨#[]⟩, .slice none 0 0, .slice none 0 0, .int .i64 10, .int .i64 1, .int .i64 0, .int .i64 0, .int .i64 0, .int .i64 1, .int .i64 0, .int .i64 0] dd rfl HRG.out hd1 hd2 Tryd.ruleSize) rfl ?_
 exact ⟨⟨s, ex, .slice none 0 0, [], .slice (some ⟨W1.heap.size, 0, none⟩) 1 1, [(1, 1)], 0, 0, 0, 0, ⟨#[]⟩, .slice none 0 0, [], .slice none 0 0, [], 10, 1, 0, 0, 0, 1, 0, 0⟩, rfl, rfl, ⟨World.ownsRow_nil _ _ _ _, HPK.out, World.ownsRow_nil _ _ _ _, World.ownsRow_nil _ _ _ _⟩, HEK.out⟩
/-- the rules of the document's example -/
def livesL : List RuleD := [plainR ⟨#[47]⟩ false, plainR ⟨#[47, 97]⟩ false, plainR ⟨#[47, 97]⟩ true]
theorem lives_right : nerr livesL 0 = 0 := by decide
theorem lives_a : found livesL [47, 97] [] = some 2 := found_eq (i := 2) (by decide) (by decide) (by decide)
theorem lives_ab : found livesL [47, 97, 47, 98] [] = some 1 := found_eq (i := 1) (by decide) (by decide) (by decide)
theorem lives_b : found livesL [47, 98] [] = some 0 := found_eq (i := 0) (by decide) (by decide) (by decide)
theorem rules_new3 (w : World) (r s t : RuleD) (T : TypeId) : Rules (w.alloc (.cells (encR r ++ encR s ++ encR t).toArray T)) (.slice (some ⟨w.heap.size, 0, none⟩) 3 3) [r, s, t] := by
 have h := World.ownsRow_lit (base := 0) (e := T) (size := 19) w (encR r ++ encR s ++ encR t).toArray 3 (Nat.zero_le _) (by unfold maxLen; omega) rfl
 refine Sl.of_own' encR_len (base := 0) (e := T) ?_
 have e : ([r, s, t] : List RuleD).flatMap encR = (encR r ++ encR s ++ encR t).toArray.toList := by simp
 rw [e]
 exact h
theorem ok_of {B : Nat} {w : World} {r q : RuleD} (h : RuleOwn B w r) (hc : r.core = q) (hf : RuleFit q) : RuleOk w r ∧ RuleFit r := ⟨h.ok, by subst hc; exact hf⟩
theorem nerr_core {R R' : List RuleD} (h : R.map RuleD.core = R'.map RuleD.core) (rates : Int) : nerr R rates = nerr R' rates := by
 have hl : R.length = R'.length := by simpa using congrArg List.length h
 have e : ∀ L : List RuleD, L.map (rchk · rates) = (L.map RuleD.core).map (rchk · rates) := fun L => by rw [List.map_map]; rfl
 unfold nerr
 rw [hl, e R, e R', h]
set_option maxRecDepth 100000 in
set_option maxHeartbeats 16000000 in
theorem lives_any (w : World) (hm : MaxV w) :
  Calls Tryd.prog 16 #[] w fun e w' => e = .returned (.bool true) ∧ Ext w w' := by
 have HM := hide hm
 clear hm
 go_enter Tryd.func16, Tryd.ntmps16
 go_upto_region 1 with (fail)
 refine wp_region_lit ?_
 refine wpList_plain rfl fun K hK => ?_
 go_simp
 refine (plain_any ⟨#[47]⟩ false w).mono ?_
 rintro e w1 ⟨r1, rfl, hc1, ho1, E1⟩
 refine hK _ _ ?_
 refine wpList_plain rfl fun K hK => ?_
 go_simp
 refine (plain_any ⟨#[47, 97]⟩ false w1).mono ?_
 rintro e w2 ⟨r2, rfl, hc2, ho2, E2⟩
 refine hK _ _ ?_
 refine wpList_plain rfl fun K hK => ?_
 go_simp
 refine (plain_any ⟨#[47, 97]⟩ true w2).mono ?_
 rintro e w3 ⟨r3, rfl, hc3, ho3, E3⟩
 refine hK _ _ ?_
 have hmap : [r1, r2, r3].map RuleD.core = livesL := by simp only [List.map_cons, List.map_nil, hc1, hc2, hc3]; rfl
 have hmap' : [r1, r2, r3].map RuleD.core = livesL.map RuleD.core := hmap
 have hne : nerr [r1, r2, r3] 0 = 0 := by rw [nerr_core hmap']; exact lives_right
 have hsl := rules_new3 w3 r1 r2 r3 43
 have hxa : Ext w3 (w3.alloc (.cells (encR r1 ++ encR r2 ++ encR r3).toArray 43)) := (Below.refl _ w3).alloc (Nat.le_refl _) _
 have hokk : ∀ r ∈ [r1, r2, r3], RuleOk (w3.alloc (.cells (encR r1 ++ encR r2 ++ encR r3).toArray 43)) r ∧ RuleFit r := fun r hr => by
  simp only [List.mem_cons, List.not_mem_nil, or_false] at hr
  rcases hr with rfl | rfl | rfl
  ·exact ok_of ((ho1.ext (E2.trans E3)).ext hxa) hc1 (plain_fit _ _ (by decide))
  ·exact ok_of ((ho2.ext E3).ext hxa) hc2 (plain_fit _ _ (by decide))
  ·exact ok_of (ho3.ext hxa) hc3 (plain_fit _ _ (by decide))
 have hE : Ext w (w3.alloc (.cells (encR r1 ++ encR r2 ++ encR r3).toArray 43)) := E1.trans (E2.trans (E3.trans hxa))
 have hnew := hnew_any [r1, r2, r3] 0 _ _ hsl hokk (HM.out.ext hE)
 simp only [hne] at hnew
 have HNEW := hide hnew
 have HMAP := hide hmap'
 have HE := hide hE
 clear hnew hmap hmap' hne hsl hxa hokk hE hc1 hc2 hc3 E1 E2 E3
 obtain ⟨path_1, ex_1, hv_1, H_1, pv_1, P_1, mi_1, ab_1, de_1, ti_1, pre_1, sv_1, S_1, dv_1, D_1, q0_1, q1_1, q2_1, q3_1, q4_1, q5_1, q6_1, rate_1⟩ := r1
 obtain ⟨u10, y10, s10⟩ := owns_shape ho1.1
 obtain ⟨u11, y11, s11⟩ := owns_shape ho1.2.1
 obtain ⟨u12, y12, s12⟩ := owns_shape ho1.2.2.1
 obtain ⟨u13, y13, s13⟩ := owns_shape ho1.2.2.2
 simp only at s10 s11 s12 s13
 subst s10 s11 s12 s13
 obtain ⟨path_2, ex_2, hv_2, H_2, pv_2, P_2, mi_2, ab_2, de_2, ti_2, pre_2, sv_2, S_2, dv_2, D_2, q0_2, q1_2, q2_2, q3_2, q4_2, q5_2, q6_2, rate_2⟩ := r2
 obtain ⟨u20, y20, s20⟩ := owns_shape ho2.1
 obtain ⟨u21, y21, s21⟩ := owns_shape ho2.2.1
 obtain ⟨u22, y22, s22⟩ := owns_shape ho2.2.2.1
 obtain ⟨u23, y23, s23⟩ := owns_shape ho2.2.2.2
 simp only at s20 s21 s22 s23
 subst s20 s21 s22 s23
 obtain ⟨path_3, ex_3, hv_3, H_3, pv_3, P_3, mi_3, ab_3, de_3, ti_3, pre_3, sv_3, S_3, dv_3, D_3, q0_3, q1_3, q2_3, q3_3, q4_3, q5_3, q6_3, rate_3⟩ := r3
 obtain ⟨u30, y30, s30⟩ := owns_shape ho3.1
 obtain ⟨u31, y31, s31⟩ := owns_shape ho3.2.1
 obtain ⟨u32, y32, s32⟩ := owns_shape ho3.2.2.1
 obtain ⟨u33, y33, s33⟩ := owns_shape ho3.2.2.2
 simp only at s30 s31 s32 s33
 subst s30 s31 s32 s33
 simp only [RuleD.val]
 clear ho1 ho2 ho3
 refine wpList_plain rfl fun K hK => ?_
 go_simp
 refine hK _ _ ?_
 refine wpList_plain rfl fun K hK => ?_
 go_simp
 refine HNEW.out.mono ?_
 rintro e w5 ⟨E5, ⟨h, _⟩ | ⟨_, b, Rs, rfl, hT, hRs⟩⟩
 ·exact absurd rfl h
 refine hK _ _ ?_
 have hall := (HMAP.out).symm.trans hRs.symm
 have hrow := rowR_core hRs
 rw [← rowR_core hRs] at hT
 have HT := hide hT
 have HF := hide (fun p => (found_core (hRs.trans HMAP.out) p [] : found Rs p [] = found livesL p []))
 have HL := hide (show Rs.length = 3 by have := congrArg List.length (hRs.trans HMAP.out); simpa [livesL] using this)
 have HE5 := hide (HE.out.trans E5)
 clear hall hrow hT hRs HMAP HE HNEW E5
 refine wpList_plain rfl fun K hK => ?_
 go_simp
 refine hK _ _ ?_
 refine wpList_plain rfl fun K hK => ?_
 go_simp
 refine hK _ _ ?_
 refine wpList_plain rfl fun K hK => ?_
 go_simp
 refine hK _ _ ?_
 refine wpList_plain rfl fun K hK => ?_
 go_simp
 refine hK _ _ ?_
 refine wpList_plain rfl fun K hK => ?_
 go_simp
 refine hK _ _ ?_
 refine wpList_nil ?_
 have hfind : ∀ (s : ByteArray) (k : Int) (X : World), Ext w5 X → SzB s → found livesL (bl s) [] = some k → Calls Tryd.prog 9 #[.pointer (some ⟨b, 0, none⟩), .string s, .slice none 0 0] X fun e w' => e = .returned (.tuple #[.int .i64 k, .bool true]) ∧ Ext X w' := fun s k X hX hs hk => by
  have h1 := find_any _ b Rs (rowR Rs) s [] (.slice none 0 0) X (HT.out.ext hX) (fun x hx => rowR_mem hx) hs (HM.out.ext (HE5.out.trans hX)) ⟨by simp, none, 0, rfl, by simp, fun i x hi => by simp at hi⟩
  have h2 : findI Rs (rowR Rs) (bl s) [] = some k := (HF.out (bl s)).trans hk
  rw [h2] at h1
  exact h1
 have hlen : ∀ X, Ext w5 X → Calls Tryd.prog 34 #[.pointer (some ⟨b, 0, none⟩)] X fun e w' => e = .returned (.int .i64 3) ∧ Ext X w' := fun X hX => by
  have h1 := len_any _ b Rs (rowR Rs) X (HT.out.ext hX)
  rw [HL.out] at h1
  exact h1
 have HFI := hide hfind
 have HLE := hide hlen
 clear hfind hlen HT HF HL HM
 go_wp2_with fail
 refine (HFI.out ⟨#[47, 97]⟩ 2 _ (Below.refl _ _) (by unfold SzB; decide) lives_a).mono ?_
 rintro e w6 ⟨rfl, E6⟩
 go_wp2_with fail
 refine (HFI.out ⟨#[47, 97, 47, 98]⟩ 1 _ E6 (by unfold SzB; decide) lives_ab).mono ?_
 rintro e w7 ⟨rfl, E7⟩
 have E67 := E6.trans E7
 go_wp2_with fail
 refine (HFI.out ⟨#[47, 98]⟩ 0 _ E67 (by unfold SzB; decide) lives_b).mono ?_
 rintro e w8 ⟨rfl, E8⟩
 have E68 := E67.trans E8
 go_wp2_with fail
 refine (HLE.out _ E68).mono ?_
 rintro e w9 ⟨rfl, E9⟩
 go_wp2
 go_ret
 exact ⟨rfl, HE5.out.trans (E68.trans E9)⟩
end Go.Proofs.YtceaeiaoanhlnaaDoor
