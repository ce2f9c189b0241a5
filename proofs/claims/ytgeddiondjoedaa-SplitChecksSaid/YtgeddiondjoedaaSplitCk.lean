/- SplitChecks: the walk. -/
import Derived.Deep.RegionHeld3
import Derived.Test.YtgeddiondjoedaaSplitRc
import Derived.Test.YtgeddiondjoedaaOpens
namespace Go.Proofs.Ytgeddiondjoedaa
open Go.ChangeShapes Go.WideShapes Go.ChangeAt Go.RowKit
theorem check_nil : check [] = 12 := by decide
theorem set_flat (l : List (Int × Int)) (i : Nat) (p : Int × Int) : ((l.flatMap encP).set (i * 2) (.int .i64 p.1)).set (i * 2 + 1) (.int .i64 p.2) = (l.set i p).flatMap encP := by
  induction l generalizing i with
  | nil => simp
  | cons q l ih =>
    cases i with
    | zero => simp [encP]
    | succ i =>
      have e : (i + 1) * 2 = i * 2 + 2 := by omega
      simp only [List.flatMap_cons, List.set_cons_succ, e]
      rw [← ih i]
      simp [encP]

set_option maxHeartbeats 4000000 in
theorem checks_walk (ls : List (Int × Int)) (m : List Int) (lv mv : Value) (t p1 p2 : Int) (w : World) (hl : Parts w lv ls) (hli : ∀ p ∈ ls, I64 p.1 ∧ I64 p.2) (hs : Ints w mv m) (hm : ∀ x ∈ m, I64 x) (ht : I64 t) (hp1 : I64 p1) (hp2 : I64 p2) :
    Calls Try.prog 3 #[lv, mv, .int .i64 t, .agg #[.int .i64 p1, .int .i64 p2]] w fun e w' => e = .returned (.bool true) ∧ Ext w w' := by
  have e0 : Ext w (w.alloc (.cells #[.int .i64 p1, .int .i64 p2] 25)) := (Below.refl _ w).alloc (Nat.le_refl _) _
  have hpb : Arr (w.alloc (.cells #[.int .i64 p1, .int .i64 p2] 25)) w.heap.size 25 2 (fun i => if i = 0 then .int .i64 p1 else .int .i64 p2) := Arr.new w _ _ _ _ rfl (by
    intro i hi
    match i, hi with
    | 0, _ => rfl
    | 1, _ => rfl)
  have HS := hide (hs.ext e0)
  have HM := hide hm; clear hm
  obtain ⟨_, a, cap, rfl⟩ := hs.shape
  clear hs
  obtain ⟨i0, hi, hz0, hz1, hz2⟩ := info_parts Try.info25
  have hfi := made_fine m
  have hl4 := made_len4 m
  have hmem := made_mem m
  have hnd := made_nodup m
  have hmade := made_any m _ _ HS.out HM.out
  obtain ⟨ps, hps⟩ : ∃ ps, made m = ps := ⟨_, rfl⟩
  rw [hps] at hfi hl4 hmem hmade hnd
  have HMADE := hide hmade
  clear hmade hps
  have hxc : check ps = 0 := check_ok ps hnd (fun p hp => by have := hmem p hp; omega) (fun p hp => by have := hmem p hp; omega) (by have := hfi.pos; omega)
  have hxi : ∀ p ∈ ps, I64 p.1 ∧ I64 p.2 := fun p hp => by have := hmem p hp; unfold I64; omega
  have HFI := hide hfi; have HMEM := hide hmem; have HXC := hide hxc; have HXI := hide hxi
  clear hfi hmem hnd hxc hxi
  have hk := around_bd t ps.length (by omega)
  obtain ⟨k, hkk⟩ : ∃ k : Nat, around t ps.length = k := ⟨(around t ps.length).toNat, by omega⟩
  rw [hkk] at hk
  have HK := hide hkk; clear hkk
  have hkl : k < ps.length := by omega
  obtain ⟨hll, la, lc, rfl⟩ := hl.shape
  obtain ⟨_, hlc, hlc2⟩ := hl.cap
  have hl0 := hl.ext e0
  have HL := hide hl0
  clear hl hl0
  go_enter Try.func3, Try.ntmps3
  by_cases h12 : 12 < ls.length
  · have h12' : (12 : Int) < (ls.length : Int) := by omega
    have h12c : 12 ≤ lc := by omega
    have hll' := HL.out.take 12 (by omega)
    have hli' : ∀ p ∈ ls.take 12, I64 p.1 ∧ I64 p.2 := fun p hp => hli p (List.mem_of_mem_take hp)
    have hln : (ls.take 12).length = 12 := by rw [List.length_take]; omega
    obtain ⟨l2, hl2⟩ : ∃ l2, ls.take 12 = l2 := ⟨_, rfl⟩
    rw [hl2] at hll' hli' hln
    have HLN := hide (show l2.length ≤ 1000000 by omega)
    clear hl2 hln hll
    have hll := hll'
    clear hll' hli
    go_wp2_with fail
    have HLL := hide hll
    have HLI := hide hli'
    clear hll hli'
    refine HMADE.out.mono ?_
    rintro e w1 ⟨xv, rfl, hx, h1⟩
    have HXX := hide hx
    obtain ⟨hxl, ax, cx, rfl⟩ := hx.shape
    obtain ⟨b, off, rfl, hbb⟩ := hx.some (by omega)
    clear hx
    go_wp2_with fail
    refine (check_any ps _ _ HXX.out HXI.out (by omega)).mono ?_
    rintro e w2 ⟨rfl, h2⟩
    rw [HXC.out]
    go_wp2_with fail
    refine (sum_any ps _ _ (HXX.out.ext h2) HFI.out.fits).mono ?_
    rintro e w3 ⟨rfl, h3⟩
    have HX3 := hide ((HXX.out.ext h2).ext h3)
    have E3 := (h1.trans h2).trans h3
    have hp3 := hpb.ext E3
    go_wp2_with fail
    refine (rsum_any ps _ _ HX3.out HFI.out.fits).mono ?_
    rintro e w4 ⟨rfl, rfl⟩
    have htz : Ext w3 (w3.alloc (.cells #[] 25)) := (Below.refl _ _).alloc (Nat.le_refl _) _
    go_wp2_with (at_builtin; refine wpList_append_own _ (by rfl) _ _ 22 (by rfl) w3.heap.size 25 i0 (.agg #[.int .i64 0, .int .i64 0]) 2 16 Try.underlying22 hi hz0 hz1 hz2 rfl (by decide) (.slice (some ⟨w3.heap.size, 0, none⟩) 0 0) 0 [] (by rfl) (World.ownsRow_made (size := 2) (e := 25) w3 #[] 0 (Nat.le_refl _) (by decide) (by rfl)) ⟨b, off, none⟩ ps.length cx (ps.flatMap encP) (by rfl) (by rw [length_flatMap_enc encP_len]) ((HX3.out.ext htz).news encP_len (by decide)) (oneCell_parts _) (by unfold maxLen; omega) (by omega) (by simp) ?_; intro v3 w5 hown3 hgrow3 _; obtain ⟨g, cg, rfl, hgb, hgs⟩ := hown3.form (by omega))
    have e5 : Ext w3 w5 := htz.grown hgrow3 (by simp) (fun r hr => by simp [Value.ownBlock] at hr; omega)
    have hp5 := hp3.ext e5
    have E5 := E3.trans e5
    rw [Nat.zero_add, List.nil_append] at hown3
    have q0 := hp5.cell 0 (by decide)
    have q1 := hp5.cell 1 (by decide)
    simp only [if_true] at q0
    have q1' : w5.cell? ⟨w.heap.size, 1, none⟩ = some (.int .i64 p2) := q1
    clear q1 hgrow3 htz
    have hgf0 := hown3.frozenAt (k * 2)
    have hgf1 := hown3.frozenAt (k * 2 + 1)
    have hlf : (ps.flatMap encP).length = ps.length * 2 := length_flatMap_enc encP_len ps
    have hgc0 := hown3.cellAt (k * 2) (by omega)
    have hgc1 := hown3.cellAt (k * 2 + 1) (by omega)
    obtain ⟨u0, hu0⟩ : ∃ u, w5.cell? ⟨g, k * 2, none⟩ = some u := ⟨_, hgc0.trans (List.getElem?_eq_getElem (by omega))⟩
    obtain ⟨u1, hu1⟩ : ∃ u, w5.cell? ⟨g, k * 2 + 1, none⟩ = some u := ⟨_, hgc1.trans (List.getElem?_eq_getElem (by omega))⟩
    clear hgc0 hgc1
    have hk0 : 0 ≤ (k : Int) := hk.1
    have hk1 : (k : Int) < ps.length := hk.2
    have hne : g ≠ w.heap.size := by have := E3.size; have := hp3.lt; omega
    clear hlf
    go_wp2_with fail
    go_region_held3 (fun w' => (w'.cell? ⟨w.heap.size, 0, none⟩ = some (.int .i64 p1) ∧ w'.cell? ⟨w.heap.size, 1, none⟩ = some (.int .i64 p2)))
      (first | go_keep)
      ((go_at_call 14; refine (around_any t ps.length _ ht (by omega)).mono ?_; rintro e w6 ⟨rfl, rfl⟩; rw [HK.out]))
    all_goals
      have hgb' := E3.size
      have E7 := ((E5.setCell (p := ⟨g, k * 2, none⟩) (by show _ ≤ g; omega) (.int .i64 p1)).setCell (p := ⟨g, k * 2 + 1, none⟩) (by show _ ≤ g; omega) (.int .i64 p2)).drew
      have hY := (((hown3.stored (k * 2) (.int .i64 p1)).1.stored (k * 2 + 1) (.int .i64 p2)).1).drew
      rw [set_flat ps k (p1, p2)] at hY
      obtain ⟨w7, hw7⟩ : ∃ w7, ((w5.setCell ⟨g, k * 2, none⟩ (.int .i64 p1)).setCell ⟨g, k * 2 + 1, none⟩ (.int .i64 p2)).drew = w7 := ⟨_, rfl⟩
      rw [hw7] at E7 hY ⊢
      clear hw7
      obtain ⟨ys, hys⟩ : ∃ ys, ps.set k (p1, p2) = ys := ⟨_, rfl⟩
      have hyl : ys.length = ps.length := by rw [← hys, List.length_set]
      have hyi : ∀ p ∈ ys, I64 p.1 ∧ I64 p.2 := by
        intro p hp
        rw [← hys] at hp
        rcases List.mem_or_eq_of_mem_set hp with h | h
        · exact HXI.out p h
        · subst h; exact ⟨hp1, hp2⟩
      have hYP : Parts w7 (.slice (some ⟨g, 0, none⟩) ps.length cg) ys := by
        refine Sl.of_own encP_len (base := w3.heap.size) (e := 25) ?_ (by omega)
        rw [hyl, ← hys]
        exact hY
      have HYP := hide hYP; have HYI := hide hyi; have HYL := hide (show ys.length ≤ 1000000 by omega)
      clear hYP hyi hY hyl hys hown3 q0 q1' hu0 hu1 hgf0 hgf1
      have HL7 := hide (HLL.out.ext E7)
      go_wp2_with fail
      refine (check_any l2 _ _ HL7.out HLI.out HLN.out).mono ?_
      rintro e w8 ⟨rfl, h8⟩
      go_wp2_with fail
      refine (rcheck_any l2 _ _ (HL7.out.ext h8) HLI.out HLN.out).mono ?_
      rintro e w9 ⟨rfl, h9⟩
      go_wp2_with fail
      refine (check_any ys _ _ ((HYP.out.ext h8).ext h9) HYI.out HYL.out).mono ?_
      rintro e w10 ⟨rfl, h10⟩
      go_wp2_with fail
      refine (rcheck_any ys _ _ (((HYP.out.ext h8).ext h9).ext h10) HYI.out HYL.out).mono ?_
      rintro e w11 ⟨rfl, h11⟩
      have hnil : Parts w11 (.slice none 0 0) [] := ⟨by simp, none, 0, rfl, by simp, fun i x hi => by simp at hi⟩
      have HNIL := hide hnil
      clear hnil
      go_wp2_with fail
      refine (check_any [] _ _ HNIL.out (fun p hp => by simp at hp) (by simp)).mono ?_
      rintro e w12 ⟨rfl, h12x⟩
      rw [check_nil]
      go_wp2_with fail
      refine (lives_any _).mono ?_
      rintro e w13 ⟨rfl, h13⟩
      go_wp2_with fail
      go_ret
      exact ⟨rfl, (((((((e0.trans E7).trans h8).trans h9).trans h10).trans h11).trans h12x).trans h13)⟩
  · have h12' : (ls.length : Int) ≤ (12 : Int) := by omega
    have hli' := hli
    have HLN := hide (show ls.length ≤ 1000000 by omega)
    clear hll hli
    have hll := HL.out
    go_wp2_with fail
    have HLL := hide hll
    have HLI := hide hli'
    clear hll hli'
    refine HMADE.out.mono ?_
    rintro e w1 ⟨xv, rfl, hx, h1⟩
    have HXX := hide hx
    obtain ⟨hxl, ax, cx, rfl⟩ := hx.shape
    obtain ⟨b, off, rfl, hbb⟩ := hx.some (by omega)
    clear hx
    go_wp2_with fail
    refine (check_any ps _ _ HXX.out HXI.out (by omega)).mono ?_
    rintro e w2 ⟨rfl, h2⟩
    rw [HXC.out]
    go_wp2_with fail
    refine (sum_any ps _ _ (HXX.out.ext h2) HFI.out.fits).mono ?_
    rintro e w3 ⟨rfl, h3⟩
    have HX3 := hide ((HXX.out.ext h2).ext h3)
    have E3 := (h1.trans h2).trans h3
    have hp3 := hpb.ext E3
    go_wp2_with fail
    refine (rsum_any ps _ _ HX3.out HFI.out.fits).mono ?_
    rintro e w4 ⟨rfl, rfl⟩
    have htz : Ext w3 (w3.alloc (.cells #[] 25)) := (Below.refl _ _).alloc (Nat.le_refl _) _
    go_wp2_with (at_builtin; refine wpList_append_own _ (by rfl) _ _ 22 (by rfl) w3.heap.size 25 i0 (.agg #[.int .i64 0, .int .i64 0]) 2 16 Try.underlying22 hi hz0 hz1 hz2 rfl (by decide) (.slice (some ⟨w3.heap.size, 0, none⟩) 0 0) 0 [] (by rfl) (World.ownsRow_made (size := 2) (e := 25) w3 #[] 0 (Nat.le_refl _) (by decide) (by rfl)) ⟨b, off, none⟩ ps.length cx (ps.flatMap encP) (by rfl) (by rw [length_flatMap_enc encP_len]) ((HX3.out.ext htz).news encP_len (by decide)) (oneCell_parts _) (by unfold maxLen; omega) (by omega) (by simp) ?_; intro v3 w5 hown3 hgrow3 _; obtain ⟨g, cg, rfl, hgb, hgs⟩ := hown3.form (by omega))
    have e5 : Ext w3 w5 := htz.grown hgrow3 (by simp) (fun r hr => by simp [Value.ownBlock] at hr; omega)
    have hp5 := hp3.ext e5
    have E5 := E3.trans e5
    rw [Nat.zero_add, List.nil_append] at hown3
    have q0 := hp5.cell 0 (by decide)
    have q1 := hp5.cell 1 (by decide)
    simp only [if_true] at q0
    have q1' : w5.cell? ⟨w.heap.size, 1, none⟩ = some (.int .i64 p2) := q1
    clear q1 hgrow3 htz
    have hgf0 := hown3.frozenAt (k * 2)
    have hgf1 := hown3.frozenAt (k * 2 + 1)
    have hlf : (ps.flatMap encP).length = ps.length * 2 := length_flatMap_enc encP_len ps
    have hgc0 := hown3.cellAt (k * 2) (by omega)
    have hgc1 := hown3.cellAt (k * 2 + 1) (by omega)
    obtain ⟨u0, hu0⟩ : ∃ u, w5.cell? ⟨g, k * 2, none⟩ = some u := ⟨_, hgc0.trans (List.getElem?_eq_getElem (by omega))⟩
    obtain ⟨u1, hu1⟩ : ∃ u, w5.cell? ⟨g, k * 2 + 1, none⟩ = some u := ⟨_, hgc1.trans (List.getElem?_eq_getElem (by omega))⟩
    clear hgc0 hgc1
    have hk0 : 0 ≤ (k : Int) := hk.1
    have hk1 : (k : Int) < ps.length := hk.2
    have hne : g ≠ w.heap.size := by have := E3.size; have := hp3.lt; omega
    clear hlf
    go_wp2_with fail
    go_region_held3 (fun w' => (w'.cell? ⟨w.heap.size, 0, none⟩ = some (.int .i64 p1) ∧ w'.cell? ⟨w.heap.size, 1, none⟩ = some (.int .i64 p2)))
      (first | go_keep)
      ((go_at_call 14; refine (around_any t ps.length _ ht (by omega)).mono ?_; rintro e w6 ⟨rfl, rfl⟩; rw [HK.out]))
    all_goals
      have hgb' := E3.size
      have E7 := ((E5.setCell (p := ⟨g, k * 2, none⟩) (by show _ ≤ g; omega) (.int .i64 p1)).setCell (p := ⟨g, k * 2 + 1, none⟩) (by show _ ≤ g; omega) (.int .i64 p2)).drew
      have hY := (((hown3.stored (k * 2) (.int .i64 p1)).1.stored (k * 2 + 1) (.int .i64 p2)).1).drew
      rw [set_flat ps k (p1, p2)] at hY
      obtain ⟨w7, hw7⟩ : ∃ w7, ((w5.setCell ⟨g, k * 2, none⟩ (.int .i64 p1)).setCell ⟨g, k * 2 + 1, none⟩ (.int .i64 p2)).drew = w7 := ⟨_, rfl⟩
      rw [hw7] at E7 hY ⊢
      clear hw7
      obtain ⟨ys, hys⟩ : ∃ ys, ps.set k (p1, p2) = ys := ⟨_, rfl⟩
      have hyl : ys.length = ps.length := by rw [← hys, List.length_set]
      have hyi : ∀ p ∈ ys, I64 p.1 ∧ I64 p.2 := by
        intro p hp
        rw [← hys] at hp
        rcases List.mem_or_eq_of_mem_set hp with h | h
        · exact HXI.out p h
        · subst h; exact ⟨hp1, hp2⟩
      have hYP : Parts w7 (.slice (some ⟨g, 0, none⟩) ps.length cg) ys := by
        refine Sl.of_own encP_len (base := w3.heap.size) (e := 25) ?_ (by omega)
        rw [hyl, ← hys]
        exact hY
      have HYP := hide hYP; have HYI := hide hyi; have HYL := hide (show ys.length ≤ 1000000 by omega)
      clear hYP hyi hY hyl hys hown3 q0 q1' hu0 hu1 hgf0 hgf1
      have HL7 := hide (HLL.out.ext E7)
      go_wp2_with fail
      refine (check_any ls _ _ HL7.out HLI.out HLN.out).mono ?_
      rintro e w8 ⟨rfl, h8⟩
      go_wp2_with fail
      refine (rcheck_any ls _ _ (HL7.out.ext h8) HLI.out HLN.out).mono ?_
      rintro e w9 ⟨rfl, h9⟩
      go_wp2_with fail
      refine (check_any ys _ _ ((HYP.out.ext h8).ext h9) HYI.out HYL.out).mono ?_
      rintro e w10 ⟨rfl, h10⟩
      go_wp2_with fail
      refine (rcheck_any ys _ _ (((HYP.out.ext h8).ext h9).ext h10) HYI.out HYL.out).mono ?_
      rintro e w11 ⟨rfl, h11⟩
      have hnil : Parts w11 (.slice none 0 0) [] := ⟨by simp, none, 0, rfl, by simp, fun i x hi => by simp at hi⟩
      have HNIL := hide hnil
      clear hnil
      go_wp2_with fail
      refine (check_any [] _ _ HNIL.out (fun p hp => by simp at hp) (by simp)).mono ?_
      rintro e w12 ⟨rfl, h12x⟩
      rw [check_nil]
      go_wp2_with fail
      refine (lives_any _).mono ?_
      rintro e w13 ⟨rfl, h13⟩
      go_wp2_with fail
      go_ret
      exact ⟨rfl, (((((((e0.trans E7).trans h8).trans h9).trans h10).trans h11).trans h12x).trans h13)⟩
end Go.Proofs.Ytgeddiondjoedaa
