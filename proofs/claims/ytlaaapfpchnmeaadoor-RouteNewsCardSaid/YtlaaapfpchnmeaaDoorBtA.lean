/- law08.bent, arms 0 to 5 (printed by wip/gen_bent.py). -/
import Derived.Test.YtlaaapfpchnmeaaDoorGnX
import Derived.Test.YtlaaapfpchnmeaaDoorLiA
namespace Go.Proofs.YtlaaapfpchnmeaaDoor
open Go.ChangeShapes Go.WideShapes Go.ChangeAt Go.RowKit Go.Lib Go.Shelf
/-- what bent tells: a rule that fits -/
def BentP (w : World) (e : Ending) (w' : World) : Prop := ∃ r, e = .returned r.val ∧ RuleIn w' r ∧ RuleFit r ∧ Ext w w'
set_option maxRecDepth 100000 in
set_option maxHeartbeats 8000000 in
theorem bent0 (r : RuleD) (how n : Int) (w : World) (hok : RuleIn w r) (hf : RuleFit r) (hhow : I64 how) (hn : I64 n) (hm : around how 16 = 0) :
    Calls Tryd.prog 9 #[r.val, .int .i64 how, .int .i64 n] w (BentP w) := by
  obtain ⟨dd, hd1, hd2⟩ := Tryd.ruleDesc
  have har := fun X => around_any how 16 X hhow (by omega)
  simp only [hm] at har
  have HAR := hide har
  have HN := hide hn
  have HF := hide hf
  have HOK := hide hok
  clear har hm hhow hn hf
  obtain ⟨path, ex, hv, H, pv, P, mi, ab, de, ti, pre, sv, S, dv, D, q0, q1, q2, q3, q4, q5, q6, rate⟩ := r
  obtain ⟨hH, hP, hS, hD⟩ := hok.ok
  simp only [RuleD.val] at *
  obtain ⟨_, a1, c1, rfl⟩ := hH.shape
  obtain ⟨_, a2, c2, rfl⟩ := hP.shape
  obtain ⟨_, a3, c3, rfl⟩ := hS.shape
  obtain ⟨_, a4, c4, rfl⟩ := hD.shape
  clear hH hP hS hD
  go_enter Tryd.func9, Tryd.ntmps9
  go_upto_region 1 with (fail)
  have hb3 := heap_alloc_new w (.cells #[.string path, .bool ex, .slice a1 H.length c1, .slice a2 P.length c2, .int .i64 mi, .int .i64 ab, .int .i64 de, .int .i64 ti, .string pre, .slice a3 S.length c3, .slice a4 D.length c4, .int .i64 q0, .int .i64 q1, .int .i64 q2, .int .i64 q3, .int .i64 q4, .int .i64 q5, .int .i64 q6, .int .i64 rate] 38)
  have hx3 : Ext w (w.alloc (.cells #[.string path, .bool ex, .slice a1 H.length c1, .slice a2 P.length c2, .int .i64 mi, .int .i64 ab, .int .i64 de, .int .i64 ti, .string pre, .slice a3 S.length c3, .slice a4 D.length c4, .int .i64 q0, .int .i64 q1, .int .i64 q2, .int .i64 q3, .int .i64 q4, .int .i64 q5, .int .i64 q6, .int .i64 rate] 38)) := (Below.refl _ w).alloc (Nat.le_refl _) _
  have hb6 := heap_alloc_new (w.alloc (.cells #[.string path, .bool ex, .slice a1 H.length c1, .slice a2 P.length c2, .int .i64 mi, .int .i64 ab, .int .i64 de, .int .i64 ti, .string pre, .slice a3 S.length c3, .slice a4 D.length c4, .int .i64 q0, .int .i64 q1, .int .i64 q2, .int .i64 q3, .int .i64 q4, .int .i64 q5, .int .i64 q6, .int .i64 rate] 38)) (.cells #[.string ⟨#[]⟩, .bool false, .slice none 0 0, .slice none 0 0, .int .i64 0, .int .i64 0, .int .i64 0, .int .i64 0, .string ⟨#[]⟩, .slice none 0 0, .slice none 0 0, .int .i64 0, .int .i64 0, .int .i64 0, .int .i64 0, .int .i64 0, .int .i64 0, .int .i64 0, .int .i64 0] 38)
  have hx6 : Ext (w.alloc (.cells #[.string path, .bool ex, .slice a1 H.length c1, .slice a2 P.length c2, .int .i64 mi, .int .i64 ab, .int .i64 de, .int .i64 ti, .string pre, .slice a3 S.length c3, .slice a4 D.length c4, .int .i64 q0, .int .i64 q1, .int .i64 q2, .int .i64 q3, .int .i64 q4, .int .i64 q5, .int .i64 q6, .int .i64 rate] 38)) ((w.alloc (.cells #[.string path, .bool ex, .slice a1 H.length c1, .slice a2 P.length c2, .int .i64 mi, .int .i64 ab, .int .i64 de, .int .i64 ti, .string pre, .slice a3 S.length c3, .slice a4 D.length c4, .int .i64 q0, .int .i64 q1, .int .i64 q2, .int .i64 q3, .int .i64 q4, .int .i64 q5, .int .i64 q6, .int .i64 rate] 38)).alloc (.cells #[.string ⟨#[]⟩, .bool false, .slice none 0 0, .slice none 0 0, .int .i64 0, .int .i64 0, .int .i64 0, .int .i64 0, .string ⟨#[]⟩, .slice none 0 0, .slice none 0 0, .int .i64 0, .int .i64 0, .int .i64 0, .int .i64 0, .int .i64 0, .int .i64 0, .int .i64 0, .int .i64 0] 38)) := (Below.refl _ _).alloc (Nat.le_refl _) _
  have hb36 := (hx6.block _ (Array.getElem?_eq_some_iff.1 hb3).1).trans hb3
  have hsz : (w.alloc (.cells #[.string path, .bool ex, .slice a1 H.length c1, .slice a2 P.length c2, .int .i64 mi, .int .i64 ab, .int .i64 de, .int .i64 ti, .string pre, .slice a3 S.length c3, .slice a4 D.length c4, .int .i64 q0, .int .i64 q1, .int .i64 q2, .int .i64 q3, .int .i64 q4, .int .i64 q5, .int .i64 q6, .int .i64 rate] 38)).heap.size = w.heap.size + 1 := by simp
  have hEx := hx3.trans hx6
  rw [hsz] at hb6
  generalize (w.alloc (.cells #[.string path, .bool ex, .slice a1 H.length c1, .slice a2 P.length c2, .int .i64 mi, .int .i64 ab, .int .i64 de, .int .i64 ti, .string pre, .slice a3 S.length c3, .slice a4 D.length c4, .int .i64 q0, .int .i64 q1, .int .i64 q2, .int .i64 q3, .int .i64 q4, .int .i64 q5, .int .i64 q6, .int .i64 rate] 38)).alloc (.cells #[.string ⟨#[]⟩, .bool false, .slice none 0 0, .slice none 0 0, .int .i64 0, .int .i64 0, .int .i64 0, .int .i64 0, .string ⟨#[]⟩, .slice none 0 0, .slice none 0 0, .int .i64 0, .int .i64 0, .int .i64 0, .int .i64 0, .int .i64 0, .int .i64 0, .int .i64 0, .int .i64 0] 38) = W2 at *
  have hbox : BoxR W2 w.heap.size (⟨path, ex, .slice a1 H.length c1, H, .slice a2 P.length c2, P, mi, ab, de, ti, pre, .slice a3 S.length c3, S, .slice a4 D.length c4, D, q0, q1, q2, q3, q4, q5, q6, rate⟩ : RuleD) := ⟨_, hb36, rfl⟩
  have HB := hide hbox
  have HEX := hide hEx
  have HB6 := hide hb6
  have H6O := hide hb6
  clear hb3 hx3 hb6 hx6 hb36 hsz hbox hEx
  go_wp2_with fail
  refine (HAR.out _).mono ?_
  rintro e w1 ⟨rfl, rfl⟩
  go_wp2_with fail
  refine (text_any n _ HN.out).mono ?_
  rintro e w5 ⟨s, rfl, hs, E5⟩
  have hbx := HB.out.keep (E5.block _ HB.out.lt)
  have HBX := hide hbx
  have HEX5 := hide (HEX.out.trans E5)
  have HB65 := hide ((E5.block _ (Array.getElem?_eq_some_iff.1 HB6.out).1).trans HB6.out)
  have HS := hide hs
  clear hbx HB HEX HB6 E5 hs
  have d0 : w5.cell? ⟨w.heap.size, 0, none⟩ = some (.string path) := HBX.out.cellR.2 0 _ rfl
  have z0 := HBX.out.frozen 0
  go_upto_region 33 with (fail)
  have hset := HBX.out.set (r' := (⟨s, ex, .slice a1 H.length c1, H, .slice a2 P.length c2, P, mi, ab, de, ti, pre, .slice a3 S.length c3, S, .slice a4 D.length c4, D, q0, q1, q2, q3, q4, q5, q6, rate⟩ : RuleD)) 0 (.string s) rfl
  have hk := Keeps.of_set (X := fun g => g = w.heap.size) w5 w.heap.size 0 (.string s) rfl
  have hE := Keeps.ext HEX5.out hk (fun g hg => by omega)
  have h6 := (Below.heap_setCell w5 ⟨w.heap.size, 0, none⟩ (.string s) (w.heap.size + 1) (by simp)).trans HB65.out
  have okw := HOK.out
  have hsz2 : w.heap.size + 1 < W2.heap.size := (Array.getElem?_eq_some_iff.1 H6O.out).1
  have hok' : ∀ X, Keeps (fun g => g = w.heap.size + 1) (w5.setCell ⟨w.heap.size, 0, none⟩ (.string s)) X → RuleIn X (⟨s, ex, .slice a1 H.length c1, H, .slice a2 P.length c2, P, mi, ab, de, ti, pre, .slice a3 S.length c3, S, .slice a4 D.length c4, D, q0, q1, q2, q3, q4, q5, q6, rate⟩ : RuleD) := fun X hKX => by
    have hEX := Keeps.ext hE hKX (fun g hg => by omega)
    have hkk : ∀ g, Value.ownBlock (.slice (some ⟨W2.heap.size, 0, none⟩) 1 1) = some g → ¬ g = w.heap.size + 1 := fun g hg e => by
      have : g = W2.heap.size := by cases hg; rfl
      omega
    exact ⟨⟨okw.ok.1.ext hEX, okw.ok.2.1.ext hEX, okw.ok.2.2.1.ext hEX, okw.ok.2.2.2.ext hEX⟩, okw.h.ext hEX, okw.p.ext hEX, okw.s.ext hEX, okw.d.ext hEX⟩
  obtain ⟨zp, zpre, zH, zS, zD, zP, zl⟩ := HF.out
  have hf' : RuleFit (⟨s, ex, .slice a1 H.length c1, H, .slice a2 P.length c2, P, mi, ab, de, ti, pre, .slice a3 S.length c3, S, .slice a4 D.length c4, D, q0, q1, q2, q3, q4, q5, q6, rate⟩ : RuleD) := ⟨(by have := HS.out; unfold SzB; simp only; omega), zpre, zH, zS, zD, zP, zl⟩
  generalize (⟨s, ex, .slice a1 H.length c1, H, .slice a2 P.length c2, P, mi, ab, de, ti, pre, .slice a3 S.length c3, S, .slice a4 D.length c4, D, q0, q1, q2, q3, q4, q5, q6, rate⟩ : RuleD) = r9 at hset hok' hf'
  generalize w5.setCell ⟨w.heap.size, 0, none⟩ (.string s) = W9 at hset hE h6 hok' ⊢
  have HOK9 := hide hok'
  have HF9 := hide hf'
  have HE9 := hide hE
  clear hok' hf' hE hk okw zp zpre zH zS zD zP zl
  refine wp_region_lit ?_
  refine wpList_load_mid rfl 38 (.tmp 3) rfl w.heap.size 0 rfl (encR r9) dd (fun j v hv => by rw [Nat.zero_add]; exact hset.cellR.2 j v hv) hd1 hd2 Tryd.ruleSize ?_
  have hth : W9.there (w.heap.size + 1) 0 (encR r9).toArray.size := fun j hj => by
    have hj' : j < 19 := hj
    rw [Nat.zero_add]
    refine ⟨?_, by simp [World.frozen?, h6]⟩
    simp only [World.cell?, h6]
    simp [hj']
  refine wpList_store_mid rfl 38 (.tmp 6) (.tmp 91) rfl (w.heap.size + 1) 0 (encR r9).toArray rfl rfl hth Tryd.ruleSize (all_oneCell_toArray (encR_one' r9 (HOK9.out _ (Keeps.refl _ _)).ok)) ?_
  refine wpList_nil ?_
  have hrs := World.rangeAt_setCells_same W9 (w.heap.size + 1) 0 (encR r9) hth
  have hk5 := keeps_setCells (w.heap.size + 1) (encR r9) 0 W9
  show Exit.then _ _ _ _ (W9.setCells (w.heap.size + 1) 0 (encR r9))
  generalize W9.setCells (w.heap.size + 1) 0 (encR r9) = W10 at hrs hk5 ⊢
  have HEF := hide (Keeps.ext HE9.out hk5 (fun g hg => by omega))
  have HOF := hide (HOK9.out _ hk5)
  have HRG := hide hrs
  clear hrs hk5 hth h6 hset
  simp only [Act.put]
  go_wp2_with (fail)
  (try simp only [Exit.inBlock, Exit.then])
  refine bodyPost_ret (results_cell_mid rfl _ _ (w.heap.size + 1) 0 (encR r9) dd rfl HRG.out hd1 hd2 Tryd.ruleSize) rfl ?_
  exact ⟨r9, rfl, HOF.out, HF9.out, HEF.out⟩
set_option maxRecDepth 100000 in
set_option maxHeartbeats 8000000 in
theorem bent1 (r : RuleD) (how n : Int) (w : World) (hok : RuleIn w r) (hf : RuleFit r) (hhow : I64 how) (hn : I64 n) (hm : around how 16 = 1) :
    Calls Tryd.prog 9 #[r.val, .int .i64 how, .int .i64 n] w (BentP w) := by
  obtain ⟨dd, hd1, hd2⟩ := Tryd.ruleDesc
  have har := fun X => around_any how 16 X hhow (by omega)
  simp only [hm] at har
  have HAR := hide har
  have HN := hide hn
  have HF := hide hf
  have HOK := hide hok
  clear har hm hhow hn hf
  obtain ⟨path, ex, hv, H, pv, P, mi, ab, de, ti, pre, sv, S, dv, D, q0, q1, q2, q3, q4, q5, q6, rate⟩ := r
  obtain ⟨hH, hP, hS, hD⟩ := hok.ok
  simp only [RuleD.val] at *
  obtain ⟨_, a1, c1, rfl⟩ := hH.shape
  obtain ⟨_, a2, c2, rfl⟩ := hP.shape
  obtain ⟨_, a3, c3, rfl⟩ := hS.shape
  obtain ⟨_, a4, c4, rfl⟩ := hD.shape
  clear hH hP hS hD
  go_enter Tryd.func9, Tryd.ntmps9
  go_upto_region 1 with (fail)
  have hb3 := heap_alloc_new w (.cells #[.string path, .bool ex, .slice a1 H.length c1, .slice a2 P.length c2, .int .i64 mi, .int .i64 ab, .int .i64 de, .int .i64 ti, .string pre, .slice a3 S.length c3, .slice a4 D.length c4, .int .i64 q0, .int .i64 q1, .int .i64 q2, .int .i64 q3, .int .i64 q4, .int .i64 q5, .int .i64 q6, .int .i64 rate] 38)
  have hx3 : Ext w (w.alloc (.cells #[.string path, .bool ex, .slice a1 H.length c1, .slice a2 P.length c2, .int .i64 mi, .int .i64 ab, .int .i64 de, .int .i64 ti, .string pre, .slice a3 S.length c3, .slice a4 D.length c4, .int .i64 q0, .int .i64 q1, .int .i64 q2, .int .i64 q3, .int .i64 q4, .int .i64 q5, .int .i64 q6, .int .i64 rate] 38)) := (Below.refl _ w).alloc (Nat.le_refl _) _
  have hb6 := heap_alloc_new (w.alloc (.cells #[.string path, .bool ex, .slice a1 H.length c1, .slice a2 P.length c2, .int .i64 mi, .int .i64 ab, .int .i64 de, .int .i64 ti, .string pre, .slice a3 S.length c3, .slice a4 D.length c4, .int .i64 q0, .int .i64 q1, .int .i64 q2, .int .i64 q3, .int .i64 q4, .int .i64 q5, .int .i64 q6, .int .i64 rate] 38)) (.cells #[.string ⟨#[]⟩, .bool false, .slice none 0 0, .slice none 0 0, .int .i64 0, .int .i64 0, .int .i64 0, .int .i64 0, .string ⟨#[]⟩, .slice none 0 0, .slice none 0 0, .int .i64 0, .int .i64 0, .int .i64 0, .int .i64 0, .int .i64 0, .int .i64 0, .int .i64 0, .int .i64 0] 38)
  have hx6 : Ext (w.alloc (.cells #[.string path, .bool ex, .slice a1 H.length c1, .slice a2 P.length c2, .int .i64 mi, .int .i64 ab, .int .i64 de, .int .i64 ti, .string pre, .slice a3 S.length c3, .slice a4 D.length c4, .int .i64 q0, .int .i64 q1, .int .i64 q2, .int .i64 q3, .int .i64 q4, .int .i64 q5, .int .i64 q6, .int .i64 rate] 38)) ((w.alloc (.cells #[.string path, .bool ex, .slice a1 H.length c1, .slice a2 P.length c2, .int .i64 mi, .int .i64 ab, .int .i64 de, .int .i64 ti, .string pre, .slice a3 S.length c3, .slice a4 D.length c4, .int .i64 q0, .int .i64 q1, .int .i64 q2, .int .i64 q3, .int .i64 q4, .int .i64 q5, .int .i64 q6, .int .i64 rate] 38)).alloc (.cells #[.string ⟨#[]⟩, .bool false, .slice none 0 0, .slice none 0 0, .int .i64 0, .int .i64 0, .int .i64 0, .int .i64 0, .string ⟨#[]⟩, .slice none 0 0, .slice none 0 0, .int .i64 0, .int .i64 0, .int .i64 0, .int .i64 0, .int .i64 0, .int .i64 0, .int .i64 0, .int .i64 0] 38)) := (Below.refl _ _).alloc (Nat.le_refl _) _
  have hb36 := (hx6.block _ (Array.getElem?_eq_some_iff.1 hb3).1).trans hb3
  have hsz : (w.alloc (.cells #[.string path, .bool ex, .slice a1 H.length c1, .slice a2 P.length c2, .int .i64 mi, .int .i64 ab, .int .i64 de, .int .i64 ti, .string pre, .slice a3 S.length c3, .slice a4 D.length c4, .int .i64 q0, .int .i64 q1, .int .i64 q2, .int .i64 q3, .int .i64 q4, .int .i64 q5, .int .i64 q6, .int .i64 rate] 38)).heap.size = w.heap.size + 1 := by simp
  have hEx := hx3.trans hx6
  rw [hsz] at hb6
  generalize (w.alloc (.cells #[.string path, .bool ex, .slice a1 H.length c1, .slice a2 P.length c2, .int .i64 mi, .int .i64 ab, .int .i64 de, .int .i64 ti, .string pre, .slice a3 S.length c3, .slice a4 D.length c4, .int .i64 q0, .int .i64 q1, .int .i64 q2, .int .i64 q3, .int .i64 q4, .int .i64 q5, .int .i64 q6, .int .i64 rate] 38)).alloc (.cells #[.string ⟨#[]⟩, .bool false, .slice none 0 0, .slice none 0 0, .int .i64 0, .int .i64 0, .int .i64 0, .int .i64 0, .string ⟨#[]⟩, .slice none 0 0, .slice none 0 0, .int .i64 0, .int .i64 0, .int .i64 0, .int .i64 0, .int .i64 0, .int .i64 0, .int .i64 0, .int .i64 0] 38) = W2 at *
  have hbox : BoxR W2 w.heap.size (⟨path, ex, .slice a1 H.length c1, H, .slice a2 P.length c2, P, mi, ab, de, ti, pre, .slice a3 S.length c3, S, .slice a4 D.length c4, D, q0, q1, q2, q3, q4, q5, q6, rate⟩ : RuleD) := ⟨_, hb36, rfl⟩
  have HB := hide hbox
  have HEX := hide hEx
  have HB6 := hide hb6
  have H6O := hide hb6
  clear hb3 hx3 hb6 hx6 hb36 hsz hbox hEx
  go_wp2_with fail
  refine (HAR.out _).mono ?_
  rintro e w1 ⟨rfl, rfl⟩
  have d0 : W2.cell? ⟨w.heap.size, 4, none⟩ = some (.int .i64 mi) := HB.out.cellR.2 4 _ rfl
  have z0 := HB.out.frozen 4
  go_upto_region 33 with (fail)
  have hset := HB.out.set (r' := (⟨path, ex, .slice a1 H.length c1, H, .slice a2 P.length c2, P, n, ab, de, ti, pre, .slice a3 S.length c3, S, .slice a4 D.length c4, D, q0, q1, q2, q3, q4, q5, q6, rate⟩ : RuleD)) 4 (.int .i64 n) rfl
  have hk := Keeps.of_set (X := fun g => g = w.heap.size) W2 w.heap.size 4 (.int .i64 n) rfl
  have hE := Keeps.ext HEX.out hk (fun g hg => by omega)
  have h6 := (Below.heap_setCell W2 ⟨w.heap.size, 4, none⟩ (.int .i64 n) (w.heap.size + 1) (by simp)).trans HB6.out
  have okw := HOK.out
  have hsz2 : w.heap.size + 1 < W2.heap.size := (Array.getElem?_eq_some_iff.1 H6O.out).1
  have hok' : ∀ X, Keeps (fun g => g = w.heap.size + 1) (W2.setCell ⟨w.heap.size, 4, none⟩ (.int .i64 n)) X → RuleIn X (⟨path, ex, .slice a1 H.length c1, H, .slice a2 P.length c2, P, n, ab, de, ti, pre, .slice a3 S.length c3, S, .slice a4 D.length c4, D, q0, q1, q2, q3, q4, q5, q6, rate⟩ : RuleD) := fun X hKX => by
    have hEX := Keeps.ext hE hKX (fun g hg => by omega)
    have hkk : ∀ g, Value.ownBlock (.slice (some ⟨W2.heap.size, 0, none⟩) 1 1) = some g → ¬ g = w.heap.size + 1 := fun g hg e => by
      have : g = W2.heap.size := by cases hg; rfl
      omega
    exact ⟨⟨okw.ok.1.ext hEX, okw.ok.2.1.ext hEX, okw.ok.2.2.1.ext hEX, okw.ok.2.2.2.ext hEX⟩, okw.h.ext hEX, okw.p.ext hEX, okw.s.ext hEX, okw.d.ext hEX⟩
  obtain ⟨zp, zpre, zH, zS, zD, zP, zl⟩ := HF.out
  have hf' : RuleFit (⟨path, ex, .slice a1 H.length c1, H, .slice a2 P.length c2, P, n, ab, de, ti, pre, .slice a3 S.length c3, S, .slice a4 D.length c4, D, q0, q1, q2, q3, q4, q5, q6, rate⟩ : RuleD) := ⟨zp, zpre, zH, zS, zD, zP, zl⟩
  generalize (⟨path, ex, .slice a1 H.length c1, H, .slice a2 P.length c2, P, n, ab, de, ti, pre, .slice a3 S.length c3, S, .slice a4 D.length c4, D, q0, q1, q2, q3, q4, q5, q6, rate⟩ : RuleD) = r9 at hset hok' hf'
  generalize W2.setCell ⟨w.heap.size, 4, none⟩ (.int .i64 n) = W9 at hset hE h6 hok' ⊢
  have HOK9 := hide hok'
  have HF9 := hide hf'
  have HE9 := hide hE
  clear hok' hf' hE hk okw zp zpre zH zS zD zP zl
  refine wp_region_lit ?_
  refine wpList_load_mid rfl 38 (.tmp 3) rfl w.heap.size 0 rfl (encR r9) dd (fun j v hv => by rw [Nat.zero_add]; exact hset.cellR.2 j v hv) hd1 hd2 Tryd.ruleSize ?_
  have hth : W9.there (w.heap.size + 1) 0 (encR r9).toArray.size := fun j hj => by
    have hj' : j < 19 := hj
    rw [Nat.zero_add]
    refine ⟨?_, by simp [World.frozen?, h6]⟩
    simp only [World.cell?, h6]
    simp [hj']
  refine wpList_store_mid rfl 38 (.tmp 6) (.tmp 91) rfl (w.heap.size + 1) 0 (encR r9).toArray rfl rfl hth Tryd.ruleSize (all_oneCell_toArray (encR_one' r9 (HOK9.out _ (Keeps.refl _ _)).ok)) ?_
  refine wpList_nil ?_
  have hrs := World.rangeAt_setCells_same W9 (w.heap.size + 1) 0 (encR r9) hth
  have hk5 := keeps_setCells (w.heap.size + 1) (encR r9) 0 W9
  show Exit.then _ _ _ _ (W9.setCells (w.heap.size + 1) 0 (encR r9))
  generalize W9.setCells (w.heap.size + 1) 0 (encR r9) = W10 at hrs hk5 ⊢
  have HEF := hide (Keeps.ext HE9.out hk5 (fun g hg => by omega))
  have HOF := hide (HOK9.out _ hk5)
  have HRG := hide hrs
  clear hrs hk5 hth h6 hset
  simp only [Act.put]
  go_wp2_with (fail)
  (try simp only [Exit.inBlock, Exit.then])
  refine bodyPost_ret (results_cell_mid rfl _ _ (w.heap.size + 1) 0 (encR r9) dd rfl HRG.out hd1 hd2 Tryd.ruleSize) rfl ?_
  exact ⟨r9, rfl, HOF.out, HF9.out, HEF.out⟩
set_option maxRecDepth 100000 in
set_option maxHeartbeats 8000000 in
theorem bent2 (r : RuleD) (how n : Int) (w : World) (hok : RuleIn w r) (hf : RuleFit r) (hhow : I64 how) (hn : I64 n) (hm : around how 16 = 2) :
    Calls Tryd.prog 9 #[r.val, .int .i64 how, .int .i64 n] w (BentP w) := by
  obtain ⟨dd, hd1, hd2⟩ := Tryd.ruleDesc
  have har := fun X => around_any how 16 X hhow (by omega)
  simp only [hm] at har
  have HAR := hide har
  have HN := hide hn
  have HF := hide hf
  have HOK := hide hok
  clear har hm hhow hn hf
  obtain ⟨path, ex, hv, H, pv, P, mi, ab, de, ti, pre, sv, S, dv, D, q0, q1, q2, q3, q4, q5, q6, rate⟩ := r
  obtain ⟨hH, hP, hS, hD⟩ := hok.ok
  simp only [RuleD.val] at *
  obtain ⟨_, a1, c1, rfl⟩ := hH.shape
  obtain ⟨_, a2, c2, rfl⟩ := hP.shape
  obtain ⟨_, a3, c3, rfl⟩ := hS.shape
  obtain ⟨_, a4, c4, rfl⟩ := hD.shape
  clear hH hP hS hD
  go_enter Tryd.func9, Tryd.ntmps9
  go_upto_region 1 with (fail)
  have hb3 := heap_alloc_new w (.cells #[.string path, .bool ex, .slice a1 H.length c1, .slice a2 P.length c2, .int .i64 mi, .int .i64 ab, .int .i64 de, .int .i64 ti, .string pre, .slice a3 S.length c3, .slice a4 D.length c4, .int .i64 q0, .int .i64 q1, .int .i64 q2, .int .i64 q3, .int .i64 q4, .int .i64 q5, .int .i64 q6, .int .i64 rate] 38)
  have hx3 : Ext w (w.alloc (.cells #[.string path, .bool ex, .slice a1 H.length c1, .slice a2 P.length c2, .int .i64 mi, .int .i64 ab, .int .i64 de, .int .i64 ti, .string pre, .slice a3 S.length c3, .slice a4 D.length c4, .int .i64 q0, .int .i64 q1, .int .i64 q2, .int .i64 q3, .int .i64 q4, .int .i64 q5, .int .i64 q6, .int .i64 rate] 38)) := (Below.refl _ w).alloc (Nat.le_refl _) _
  have hb6 := heap_alloc_new (w.alloc (.cells #[.string path, .bool ex, .slice a1 H.length c1, .slice a2 P.length c2, .int .i64 mi, .int .i64 ab, .int .i64 de, .int .i64 ti, .string pre, .slice a3 S.length c3, .slice a4 D.length c4, .int .i64 q0, .int .i64 q1, .int .i64 q2, .int .i64 q3, .int .i64 q4, .int .i64 q5, .int .i64 q6, .int .i64 rate] 38)) (.cells #[.string ⟨#[]⟩, .bool false, .slice none 0 0, .slice none 0 0, .int .i64 0, .int .i64 0, .int .i64 0, .int .i64 0, .string ⟨#[]⟩, .slice none 0 0, .slice none 0 0, .int .i64 0, .int .i64 0, .int .i64 0, .int .i64 0, .int .i64 0, .int .i64 0, .int .i64 0, .int .i64 0] 38)
  have hx6 : Ext (w.alloc (.cells #[.string path, .bool ex, .slice a1 H.length c1, .slice a2 P.length c2, .int .i64 mi, .int .i64 ab, .int .i64 de, .int .i64 ti, .string pre, .slice a3 S.length c3, .slice a4 D.length c4, .int .i64 q0, .int .i64 q1, .int .i64 q2, .int .i64 q3, .int .i64 q4, .int .i64 q5, .int .i64 q6, .int .i64 rate] 38)) ((w.alloc (.cells #[.string path, .bool ex, .slice a1 H.length c1, .slice a2 P.length c2, .int .i64 mi, .int .i64 ab, .int .i64 de, .int .i64 ti, .string pre, .slice a3 S.length c3, .slice a4 D.length c4, .int .i64 q0, .int .i64 q1, .int .i64 q2, .int .i64 q3, .int .i64 q4, .int .i64 q5, .int .i64 q6, .int .i64 rate] 38)).alloc (.cells #[.string ⟨#[]⟩, .bool false, .slice none 0 0, .slice none 0 0, .int .i64 0, .int .i64 0, .int .i64 0, .int .i64 0, .string ⟨#[]⟩, .slice none 0 0, .slice none 0 0, .int .i64 0, .int .i64 0, .int .i64 0, .int .i64 0, .int .i64 0, .int .i64 0, .int .i64 0, .int .i64 0] 38)) := (Below.refl _ _).alloc (Nat.le_refl _) _
  have hb36 := (hx6.block _ (Array.getElem?_eq_some_iff.1 hb3).1).trans hb3
  have hsz : (w.alloc (.cells #[.string path, .bool ex, .slice a1 H.length c1, .slice a2 P.length c2, .int .i64 mi, .int .i64 ab, .int .i64 de, .int .i64 ti, .string pre, .slice a3 S.length c3, .slice a4 D.length c4, .int .i64 q0, .int .i64 q1, .int .i64 q2, .int .i64 q3, .int .i64 q4, .int .i64 q5, .int .i64 q6, .int .i64 rate] 38)).heap.size = w.heap.size + 1 := by simp
  have hEx := hx3.trans hx6
  rw [hsz] at hb6
  generalize (w.alloc (.cells #[.string path, .bool ex, .slice a1 H.length c1, .slice a2 P.length c2, .int .i64 mi, .int .i64 ab, .int .i64 de, .int .i64 ti, .string pre, .slice a3 S.length c3, .slice a4 D.length c4, .int .i64 q0, .int .i64 q1, .int .i64 q2, .int .i64 q3, .int .i64 q4, .int .i64 q5, .int .i64 q6, .int .i64 rate] 38)).alloc (.cells #[.string ⟨#[]⟩, .bool false, .slice none 0 0, .slice none 0 0, .int .i64 0, .int .i64 0, .int .i64 0, .int .i64 0, .string ⟨#[]⟩, .slice none 0 0, .slice none 0 0, .int .i64 0, .int .i64 0, .int .i64 0, .int .i64 0, .int .i64 0, .int .i64 0, .int .i64 0, .int .i64 0] 38) = W2 at *
  have hbox : BoxR W2 w.heap.size (⟨path, ex, .slice a1 H.length c1, H, .slice a2 P.length c2, P, mi, ab, de, ti, pre, .slice a3 S.length c3, S, .slice a4 D.length c4, D, q0, q1, q2, q3, q4, q5, q6, rate⟩ : RuleD) := ⟨_, hb36, rfl⟩
  have HB := hide hbox
  have HEX := hide hEx
  have HB6 := hide hb6
  have H6O := hide hb6
  clear hb3 hx3 hb6 hx6 hb36 hsz hbox hEx
  go_wp2_with fail
  refine (HAR.out _).mono ?_
  rintro e w1 ⟨rfl, rfl⟩
  have d0 : W2.cell? ⟨w.heap.size, 5, none⟩ = some (.int .i64 ab) := HB.out.cellR.2 5 _ rfl
  have z0 := HB.out.frozen 5
  go_upto_region 33 with (fail)
  have hset := HB.out.set (r' := (⟨path, ex, .slice a1 H.length c1, H, .slice a2 P.length c2, P, mi, n, de, ti, pre, .slice a3 S.length c3, S, .slice a4 D.length c4, D, q0, q1, q2, q3, q4, q5, q6, rate⟩ : RuleD)) 5 (.int .i64 n) rfl
  have hk := Keeps.of_set (X := fun g => g = w.heap.size) W2 w.heap.size 5 (.int .i64 n) rfl
  have hE := Keeps.ext HEX.out hk (fun g hg => by omega)
  have h6 := (Below.heap_setCell W2 ⟨w.heap.size, 5, none⟩ (.int .i64 n) (w.heap.size + 1) (by simp)).trans HB6.out
  have okw := HOK.out
  have hsz2 : w.heap.size + 1 < W2.heap.size := (Array.getElem?_eq_some_iff.1 H6O.out).1
  have hok' : ∀ X, Keeps (fun g => g = w.heap.size + 1) (W2.setCell ⟨w.heap.size, 5, none⟩ (.int .i64 n)) X → RuleIn X (⟨path, ex, .slice a1 H.length c1, H, .slice a2 P.length c2, P, mi, n, de, ti, pre, .slice a3 S.length c3, S, .slice a4 D.length c4, D, q0, q1, q2, q3, q4, q5, q6, rate⟩ : RuleD) := fun X hKX => by
    have hEX := Keeps.ext hE hKX (fun g hg => by omega)
    have hkk : ∀ g, Value.ownBlock (.slice (some ⟨W2.heap.size, 0, none⟩) 1 1) = some g → ¬ g = w.heap.size + 1 := fun g hg e => by
      have : g = W2.heap.size := by cases hg; rfl
      omega
    exact ⟨⟨okw.ok.1.ext hEX, okw.ok.2.1.ext hEX, okw.ok.2.2.1.ext hEX, okw.ok.2.2.2.ext hEX⟩, okw.h.ext hEX, okw.p.ext hEX, okw.s.ext hEX, okw.d.ext hEX⟩
  obtain ⟨zp, zpre, zH, zS, zD, zP, zl⟩ := HF.out
  have hf' : RuleFit (⟨path, ex, .slice a1 H.length c1, H, .slice a2 P.length c2, P, mi, n, de, ti, pre, .slice a3 S.length c3, S, .slice a4 D.length c4, D, q0, q1, q2, q3, q4, q5, q6, rate⟩ : RuleD) := ⟨zp, zpre, zH, zS, zD, zP, zl⟩
  generalize (⟨path, ex, .slice a1 H.length c1, H, .slice a2 P.length c2, P, mi, n, de, ti, pre, .slice a3 S.length c3, S, .slice a4 D.length c4, D, q0, q1, q2, q3, q4, q5, q6, rate⟩ : RuleD) = r9 at hset hok' hf'
  generalize W2.setCell ⟨w.heap.size, 5, none⟩ (.int .i64 n) = W9 at hset hE h6 hok' ⊢
  have HOK9 := hide hok'
  have HF9 := hide hf'
  have HE9 := hide hE
  clear hok' hf' hE hk okw zp zpre zH zS zD zP zl
  refine wp_region_lit ?_
  refine wpList_load_mid rfl 38 (.tmp 3) rfl w.heap.size 0 rfl (encR r9) dd (fun j v hv => by rw [Nat.zero_add]; exact hset.cellR.2 j v hv) hd1 hd2 Tryd.ruleSize ?_
  have hth : W9.there (w.heap.size + 1) 0 (encR r9).toArray.size := fun j hj => by
    have hj' : j < 19 := hj
    rw [Nat.zero_add]
    refine ⟨?_, by simp [World.frozen?, h6]⟩
    simp only [World.cell?, h6]
    simp [hj']
  refine wpList_store_mid rfl 38 (.tmp 6) (.tmp 91) rfl (w.heap.size + 1) 0 (encR r9).toArray rfl rfl hth Tryd.ruleSize (all_oneCell_toArray (encR_one' r9 (HOK9.out _ (Keeps.refl _ _)).ok)) ?_
  refine wpList_nil ?_
  have hrs := World.rangeAt_setCells_same W9 (w.heap.size + 1) 0 (encR r9) hth
  have hk5 := keeps_setCells (w.heap.size + 1) (encR r9) 0 W9
  show Exit.then _ _ _ _ (W9.setCells (w.heap.size + 1) 0 (encR r9))
  generalize W9.setCells (w.heap.size + 1) 0 (encR r9) = W10 at hrs hk5 ⊢
  have HEF := hide (Keeps.ext HE9.out hk5 (fun g hg => by omega))
  have HOF := hide (HOK9.out _ hk5)
  have HRG := hide hrs
  clear hrs hk5 hth h6 hset
  simp only [Act.put]
  go_wp2_with (fail)
  (try simp only [Exit.inBlock, Exit.then])
  refine bodyPost_ret (results_cell_mid rfl _ _ (w.heap.size + 1) 0 (encR r9) dd rfl HRG.out hd1 hd2 Tryd.ruleSize) rfl ?_
  exact ⟨r9, rfl, HOF.out, HF9.out, HEF.out⟩
set_option maxRecDepth 100000 in
set_option maxHeartbeats 8000000 in
theorem bent3 (r : RuleD) (how n : Int) (w : World) (hok : RuleIn w r) (hf : RuleFit r) (hhow : I64 how) (hn : I64 n) (hm : around how 16 = 3) :
    Calls Tryd.prog 9 #[r.val, .int .i64 how, .int .i64 n] w (BentP w) := by
  obtain ⟨dd, hd1, hd2⟩ := Tryd.ruleDesc
  have har := fun X => around_any how 16 X hhow (by omega)
  simp only [hm] at har
  have HAR := hide har
  have HN := hide hn
  have HF := hide hf
  have HOK := hide hok
  clear har hm hhow hn hf
  obtain ⟨path, ex, hv, H, pv, P, mi, ab, de, ti, pre, sv, S, dv, D, q0, q1, q2, q3, q4, q5, q6, rate⟩ := r
  obtain ⟨hH, hP, hS, hD⟩ := hok.ok
  simp only [RuleD.val] at *
  obtain ⟨_, a1, c1, rfl⟩ := hH.shape
  obtain ⟨_, a2, c2, rfl⟩ := hP.shape
  obtain ⟨_, a3, c3, rfl⟩ := hS.shape
  obtain ⟨_, a4, c4, rfl⟩ := hD.shape
  clear hH hP hS hD
  go_enter Tryd.func9, Tryd.ntmps9
  go_upto_region 1 with (fail)
  have hb3 := heap_alloc_new w (.cells #[.string path, .bool ex, .slice a1 H.length c1, .slice a2 P.length c2, .int .i64 mi, .int .i64 ab, .int .i64 de, .int .i64 ti, .string pre, .slice a3 S.length c3, .slice a4 D.length c4, .int .i64 q0, .int .i64 q1, .int .i64 q2, .int .i64 q3, .int .i64 q4, .int .i64 q5, .int .i64 q6, .int .i64 rate] 38)
  have hx3 : Ext w (w.alloc (.cells #[.string path, .bool ex, .slice a1 H.length c1, .slice a2 P.length c2, .int .i64 mi, .int .i64 ab, .int .i64 de, .int .i64 ti, .string pre, .slice a3 S.length c3, .slice a4 D.length c4, .int .i64 q0, .int .i64 q1, .int .i64 q2, .int .i64 q3, .int .i64 q4, .int .i64 q5, .int .i64 q6, .int .i64 rate] 38)) := (Below.refl _ w).alloc (Nat.le_refl _) _
  have hb6 := heap_alloc_new (w.alloc (.cells #[.string path, .bool ex, .slice a1 H.length c1, .slice a2 P.length c2, .int .i64 mi, .int .i64 ab, .int .i64 de, .int .i64 ti, .string pre, .slice a3 S.length c3, .slice a4 D.length c4, .int .i64 q0, .int .i64 q1, .int .i64 q2, .int .i64 q3, .int .i64 q4, .int .i64 q5, .int .i64 q6, .int .i64 rate] 38)) (.cells #[.string ⟨#[]⟩, .bool false, .slice none 0 0, .slice none 0 0, .int .i64 0, .int .i64 0, .int .i64 0, .int .i64 0, .string ⟨#[]⟩, .slice none 0 0, .slice none 0 0, .int .i64 0, .int .i64 0, .int .i64 0, .int .i64 0, .int .i64 0, .int .i64 0, .int .i64 0, .int .i64 0] 38)
  have hx6 : Ext (w.alloc (.cells #[.string path, .bool ex, .slice a1 H.length c1, .slice a2 P.length c2, .int .i64 mi, .int .i64 ab, .int .i64 de, .int .i64 ti, .string pre, .slice a3 S.length c3, .slice a4 D.length c4, .int .i64 q0, .int .i64 q1, .int .i64 q2, .int .i64 q3, .int .i64 q4, .int .i64 q5, .int .i64 q6, .int .i64 rate] 38)) ((w.alloc (.cells #[.string path, .bool ex, .slice a1 H.length c1, .slice a2 P.length c2, .int .i64 mi, .int .i64 ab, .int .i64 de, .int .i64 ti, .string pre, .slice a3 S.length c3, .slice a4 D.length c4, .int .i64 q0, .int .i64 q1, .int .i64 q2, .int .i64 q3, .int .i64 q4, .int .i64 q5, .int .i64 q6, .int .i64 rate] 38)).alloc (.cells #[.string ⟨#[]⟩, .bool false, .slice none 0 0, .slice none 0 0, .int .i64 0, .int .i64 0, .int .i64 0, .int .i64 0, .string ⟨#[]⟩, .slice none 0 0, .slice none 0 0, .int .i64 0, .int .i64 0, .int .i64 0, .int .i64 0, .int .i64 0, .int .i64 0, .int .i64 0, .int .i64 0] 38)) := (Below.refl _ _).alloc (Nat.le_refl _) _
  have hb36 := (hx6.block _ (Array.getElem?_eq_some_iff.1 hb3).1).trans hb3
  have hsz : (w.alloc (.cells #[.string path, .bool ex, .slice a1 H.length c1, .slice a2 P.length c2, .int .i64 mi, .int .i64 ab, .int .i64 de, .int .i64 ti, .string pre, .slice a3 S.length c3, .slice a4 D.length c4, .int .i64 q0, .int .i64 q1, .int .i64 q2, .int .i64 q3, .int .i64 q4, .int .i64 q5, .int .i64 q6, .int .i64 rate] 38)).heap.size = w.heap.size + 1 := by simp
  have hEx := hx3.trans hx6
  rw [hsz] at hb6
  generalize (w.alloc (.cells #[.string path, .bool ex, .slice a1 H.length c1, .slice a2 P.length c2, .int .i64 mi, .int .i64 ab, .int .i64 de, .int .i64 ti, .string pre, .slice a3 S.length c3, .slice a4 D.length c4, .int .i64 q0, .int .i64 q1, .int .i64 q2, .int .i64 q3, .int .i64 q4, .int .i64 q5, .int .i64 q6, .int .i64 rate] 38)).alloc (.cells #[.string ⟨#[]⟩, .bool false, .slice none 0 0, .slice none 0 0, .int .i64 0, .int .i64 0, .int .i64 0, .int .i64 0, .string ⟨#[]⟩, .slice none 0 0, .slice none 0 0, .int .i64 0, .int .i64 0, .int .i64 0, .int .i64 0, .int .i64 0, .int .i64 0, .int .i64 0, .int .i64 0] 38) = W2 at *
  have hbox : BoxR W2 w.heap.size (⟨path, ex, .slice a1 H.length c1, H, .slice a2 P.length c2, P, mi, ab, de, ti, pre, .slice a3 S.length c3, S, .slice a4 D.length c4, D, q0, q1, q2, q3, q4, q5, q6, rate⟩ : RuleD) := ⟨_, hb36, rfl⟩
  have HB := hide hbox
  have HEX := hide hEx
  have HB6 := hide hb6
  have H6O := hide hb6
  clear hb3 hx3 hb6 hx6 hb36 hsz hbox hEx
  go_wp2_with fail
  refine (HAR.out _).mono ?_
  rintro e w1 ⟨rfl, rfl⟩
  have d0 : W2.cell? ⟨w.heap.size, 6, none⟩ = some (.int .i64 de) := HB.out.cellR.2 6 _ rfl
  have z0 := HB.out.frozen 6
  go_upto_region 33 with (fail)
  have hset := HB.out.set (r' := (⟨path, ex, .slice a1 H.length c1, H, .slice a2 P.length c2, P, mi, ab, n, ti, pre, .slice a3 S.length c3, S, .slice a4 D.length c4, D, q0, q1, q2, q3, q4, q5, q6, rate⟩ : RuleD)) 6 (.int .i64 n) rfl
  have hk := Keeps.of_set (X := fun g => g = w.heap.size) W2 w.heap.size 6 (.int .i64 n) rfl
  have hE := Keeps.ext HEX.out hk (fun g hg => by omega)
  have h6 := (Below.heap_setCell W2 ⟨w.heap.size, 6, none⟩ (.int .i64 n) (w.heap.size + 1) (by simp)).trans HB6.out
  have okw := HOK.out
  have hsz2 : w.heap.size + 1 < W2.heap.size := (Array.getElem?_eq_some_iff.1 H6O.out).1
  have hok' : ∀ X, Keeps (fun g => g = w.heap.size + 1) (W2.setCell ⟨w.heap.size, 6, none⟩ (.int .i64 n)) X → RuleIn X (⟨path, ex, .slice a1 H.length c1, H, .slice a2 P.length c2, P, mi, ab, n, ti, pre, .slice a3 S.length c3, S, .slice a4 D.length c4, D, q0, q1, q2, q3, q4, q5, q6, rate⟩ : RuleD) := fun X hKX => by
    have hEX := Keeps.ext hE hKX (fun g hg => by omega)
    have hkk : ∀ g, Value.ownBlock (.slice (some ⟨W2.heap.size, 0, none⟩) 1 1) = some g → ¬ g = w.heap.size + 1 := fun g hg e => by
      have : g = W2.heap.size := by cases hg; rfl
      omega
    exact ⟨⟨okw.ok.1.ext hEX, okw.ok.2.1.ext hEX, okw.ok.2.2.1.ext hEX, okw.ok.2.2.2.ext hEX⟩, okw.h.ext hEX, okw.p.ext hEX, okw.s.ext hEX, okw.d.ext hEX⟩
  obtain ⟨zp, zpre, zH, zS, zD, zP, zl⟩ := HF.out
  have hf' : RuleFit (⟨path, ex, .slice a1 H.length c1, H, .slice a2 P.length c2, P, mi, ab, n, ti, pre, .slice a3 S.length c3, S, .slice a4 D.length c4, D, q0, q1, q2, q3, q4, q5, q6, rate⟩ : RuleD) := ⟨zp, zpre, zH, zS, zD, zP, zl⟩
  generalize (⟨path, ex, .slice a1 H.length c1, H, .slice a2 P.length c2, P, mi, ab, n, ti, pre, .slice a3 S.length c3, S, .slice a4 D.length c4, D, q0, q1, q2, q3, q4, q5, q6, rate⟩ : RuleD) = r9 at hset hok' hf'
  generalize W2.setCell ⟨w.heap.size, 6, none⟩ (.int .i64 n) = W9 at hset hE h6 hok' ⊢
  have HOK9 := hide hok'
  have HF9 := hide hf'
  have HE9 := hide hE
  clear hok' hf' hE hk okw zp zpre zH zS zD zP zl
  refine wp_region_lit ?_
  refine wpList_load_mid rfl 38 (.tmp 3) rfl w.heap.size 0 rfl (encR r9) dd (fun j v hv => by rw [Nat.zero_add]; exact hset.cellR.2 j v hv) hd1 hd2 Tryd.ruleSize ?_
  have hth : W9.there (w.heap.size + 1) 0 (encR r9).toArray.size := fun j hj => by
    have hj' : j < 19 := hj
    rw [Nat.zero_add]
    refine ⟨?_, by simp [World.frozen?, h6]⟩
    simp only [World.cell?, h6]
    simp [hj']
  refine wpList_store_mid rfl 38 (.tmp 6) (.tmp 91) rfl (w.heap.size + 1) 0 (encR r9).toArray rfl rfl hth Tryd.ruleSize (all_oneCell_toArray (encR_one' r9 (HOK9.out _ (Keeps.refl _ _)).ok)) ?_
  refine wpList_nil ?_
  have hrs := World.rangeAt_setCells_same W9 (w.heap.size + 1) 0 (encR r9) hth
  have hk5 := keeps_setCells (w.heap.size + 1) (encR r9) 0 W9
  show Exit.then _ _ _ _ (W9.setCells (w.heap.size + 1) 0 (encR r9))
  generalize W9.setCells (w.heap.size + 1) 0 (encR r9) = W10 at hrs hk5 ⊢
  have HEF := hide (Keeps.ext HE9.out hk5 (fun g hg => by omega))
  have HOF := hide (HOK9.out _ hk5)
  have HRG := hide hrs
  clear hrs hk5 hth h6 hset
  simp only [Act.put]
  go_wp2_with (fail)
  (try simp only [Exit.inBlock, Exit.then])
  refine bodyPost_ret (results_cell_mid rfl _ _ (w.heap.size + 1) 0 (encR r9) dd rfl HRG.out hd1 hd2 Tryd.ruleSize) rfl ?_
  exact ⟨r9, rfl, HOF.out, HF9.out, HEF.out⟩
set_option maxRecDepth 100000 in
set_option maxHeartbeats 8000000 in
theorem bent4 (r : RuleD) (how n : Int) (w : World) (hok : RuleIn w r) (hf : RuleFit r) (hhow : I64 how) (hn : I64 n) (hm : around how 16 = 4) :
    Calls Tryd.prog 9 #[r.val, .int .i64 how, .int .i64 n] w (BentP w) := by
  obtain ⟨dd, hd1, hd2⟩ := Tryd.ruleDesc
  have har := fun X => around_any how 16 X hhow (by omega)
  simp only [hm] at har
  have HAR := hide har
  have HN := hide hn
  have HF := hide hf
  have HOK := hide hok
  clear har hm hhow hn hf
  obtain ⟨path, ex, hv, H, pv, P, mi, ab, de, ti, pre, sv, S, dv, D, q0, q1, q2, q3, q4, q5, q6, rate⟩ := r
  obtain ⟨hH, hP, hS, hD⟩ := hok.ok
  simp only [RuleD.val] at *
  obtain ⟨_, a1, c1, rfl⟩ := hH.shape
  obtain ⟨_, a2, c2, rfl⟩ := hP.shape
  obtain ⟨_, a3, c3, rfl⟩ := hS.shape
  obtain ⟨_, a4, c4, rfl⟩ := hD.shape
  clear hH hP hS hD
  go_enter Tryd.func9, Tryd.ntmps9
  go_upto_region 1 with (fail)
  have hb3 := heap_alloc_new w (.cells #[.string path, .bool ex, .slice a1 H.length c1, .slice a2 P.length c2, .int .i64 mi, .int .i64 ab, .int .i64 de, .int .i64 ti, .string pre, .slice a3 S.length c3, .slice a4 D.length c4, .int .i64 q0, .int .i64 q1, .int .i64 q2, .int .i64 q3, .int .i64 q4, .int .i64 q5, .int .i64 q6, .int .i64 rate] 38)
  have hx3 : Ext w (w.alloc (.cells #[.string path, .bool ex, .slice a1 H.length c1, .slice a2 P.length c2, .int .i64 mi, .int .i64 ab, .int .i64 de, .int .i64 ti, .string pre, .slice a3 S.length c3, .slice a4 D.length c4, .int .i64 q0, .int .i64 q1, .int .i64 q2, .int .i64 q3, .int .i64 q4, .int .i64 q5, .int .i64 q6, .int .i64 rate] 38)) := (Below.refl _ w).alloc (Nat.le_refl _) _
  have hb6 := heap_alloc_new (w.alloc (.cells #[.string path, .bool ex, .slice a1 H.length c1, .slice a2 P.length c2, .int .i64 mi, .int .i64 ab, .int .i64 de, .int .i64 ti, .string pre, .slice a3 S.length c3, .slice a4 D.length c4, .int .i64 q0, .int .i64 q1, .int .i64 q2, .int .i64 q3, .int .i64 q4, .int .i64 q5, .int .i64 q6, .int .i64 rate] 38)) (.cells #[.string ⟨#[]⟩, .bool false, .slice none 0 0, .slice none 0 0, .int .i64 0, .int .i64 0, .int .i64 0, .int .i64 0, .string ⟨#[]⟩, .slice none 0 0, .slice none 0 0, .int .i64 0, .int .i64 0, .int .i64 0, .int .i64 0, .int .i64 0, .int .i64 0, .int .i64 0, .int .i64 0] 38)
  have hx6 : Ext (w.alloc (.cells #[.string path, .bool ex, .slice a1 H.length c1, .slice a2 P.length c2, .int .i64 mi, .int .i64 ab, .int .i64 de, .int .i64 ti, .string pre, .slice a3 S.length c3, .slice a4 D.length c4, .int .i64 q0, .int .i64 q1, .int .i64 q2, .int .i64 q3, .int .i64 q4, .int .i64 q5, .int .i64 q6, .int .i64 rate] 38)) ((w.alloc (.cells #[.string path, .bool ex, .slice a1 H.length c1, .slice a2 P.length c2, .int .i64 mi, .int .i64 ab, .int .i64 de, .int .i64 ti, .string pre, .slice a3 S.length c3, .slice a4 D.length c4, .int .i64 q0, .int .i64 q1, .int .i64 q2, .int .i64 q3, .int .i64 q4, .int .i64 q5, .int .i64 q6, .int .i64 rate] 38)).alloc (.cells #[.string ⟨#[]⟩, .bool false, .slice none 0 0, .slice none 0 0, .int .i64 0, .int .i64 0, .int .i64 0, .int .i64 0, .string ⟨#[]⟩, .slice none 0 0, .slice none 0 0, .int .i64 0, .int .i64 0, .int .i64 0, .int .i64 0, .int .i64 0, .int .i64 0, .int .i64 0, .int .i64 0] 38)) := (Below.refl _ _).alloc (Nat.le_refl _) _
  have hb36 := (hx6.block _ (Array.getElem?_eq_some_iff.1 hb3).1).trans hb3
  have hsz : (w.alloc (.cells #[.string path, .bool ex, .slice a1 H.length c1, .slice a2 P.length c2, .int .i64 mi, .int .i64 ab, .int .i64 de, .int .i64 ti, .string pre, .slice a3 S.length c3, .slice a4 D.length c4, .int .i64 q0, .int .i64 q1, .int .i64 q2, .int .i64 q3, .int .i64 q4, .int .i64 q5, .int .i64 q6, .int .i64 rate] 38)).heap.size = w.heap.size + 1 := by simp
  have hEx := hx3.trans hx6
  rw [hsz] at hb6
  generalize (w.alloc (.cells #[.string path, .bool ex, .slice a1 H.length c1, .slice a2 P.length c2, .int .i64 mi, .int .i64 ab, .int .i64 de, .int .i64 ti, .string pre, .slice a3 S.length c3, .slice a4 D.length c4, .int .i64 q0, .int .i64 q1, .int .i64 q2, .int .i64 q3, .int .i64 q4, .int .i64 q5, .int .i64 q6, .int .i64 rate] 38)).alloc (.cells #[.string ⟨#[]⟩, .bool false, .slice none 0 0, .slice none 0 0, .int .i64 0, .int .i64 0, .int .i64 0, .int .i64 0, .string ⟨#[]⟩, .slice none 0 0, .slice none 0 0, .int .i64 0, .int .i64 0, .int .i64 0, .int .i64 0, .int .i64 0, .int .i64 0, .int .i64 0, .int .i64 0] 38) = W2 at *
  have hbox : BoxR W2 w.heap.size (⟨path, ex, .slice a1 H.length c1, H, .slice a2 P.length c2, P, mi, ab, de, ti, pre, .slice a3 S.length c3, S, .slice a4 D.length c4, D, q0, q1, q2, q3, q4, q5, q6, rate⟩ : RuleD) := ⟨_, hb36, rfl⟩
  have HB := hide hbox
  have HEX := hide hEx
  have HB6 := hide hb6
  have H6O := hide hb6
  clear hb3 hx3 hb6 hx6 hb36 hsz hbox hEx
  go_wp2_with fail
  refine (HAR.out _).mono ?_
  rintro e w1 ⟨rfl, rfl⟩
  have d0 : W2.cell? ⟨w.heap.size, 7, none⟩ = some (.int .i64 ti) := HB.out.cellR.2 7 _ rfl
  have z0 := HB.out.frozen 7
  go_upto_region 33 with (fail)
  have hset := HB.out.set (r' := (⟨path, ex, .slice a1 H.length c1, H, .slice a2 P.length c2, P, mi, ab, de, n, pre, .slice a3 S.length c3, S, .slice a4 D.length c4, D, q0, q1, q2, q3, q4, q5, q6, rate⟩ : RuleD)) 7 (.int .i64 n) rfl
  have hk := Keeps.of_set (X := fun g => g = w.heap.size) W2 w.heap.size 7 (.int .i64 n) rfl
  have hE := Keeps.ext HEX.out hk (fun g hg => by omega)
  have h6 := (Below.heap_setCell W2 ⟨w.heap.size, 7, none⟩ (.int .i64 n) (w.heap.size + 1) (by simp)).trans HB6.out
  have okw := HOK.out
  have hsz2 : w.heap.size + 1 < W2.heap.size := (Array.getElem?_eq_some_iff.1 H6O.out).1
  have hok' : ∀ X, Keeps (fun g => g = w.heap.size + 1) (W2.setCell ⟨w.heap.size, 7, none⟩ (.int .i64 n)) X → RuleIn X (⟨path, ex, .slice a1 H.length c1, H, .slice a2 P.length c2, P, mi, ab, de, n, pre, .slice a3 S.length c3, S, .slice a4 D.length c4, D, q0, q1, q2, q3, q4, q5, q6, rate⟩ : RuleD) := fun X hKX => by
    have hEX := Keeps.ext hE hKX (fun g hg => by omega)
    have hkk : ∀ g, Value.ownBlock (.slice (some ⟨W2.heap.size, 0, none⟩) 1 1) = some g → ¬ g = w.heap.size + 1 := fun g hg e => by
      have : g = W2.heap.size := by cases hg; rfl
      omega
    exact ⟨⟨okw.ok.1.ext hEX, okw.ok.2.1.ext hEX, okw.ok.2.2.1.ext hEX, okw.ok.2.2.2.ext hEX⟩, okw.h.ext hEX, okw.p.ext hEX, okw.s.ext hEX, okw.d.ext hEX⟩
  obtain ⟨zp, zpre, zH, zS, zD, zP, zl⟩ := HF.out
  have hf' : RuleFit (⟨path, ex, .slice a1 H.length c1, H, .slice a2 P.length c2, P, mi, ab, de, n, pre, .slice a3 S.length c3, S, .slice a4 D.length c4, D, q0, q1, q2, q3, q4, q5, q6, rate⟩ : RuleD) := ⟨zp, zpre, zH, zS, zD, zP, zl⟩
  generalize (⟨path, ex, .slice a1 H.length c1, H, .slice a2 P.length c2, P, mi, ab, de, n, pre, .slice a3 S.length c3, S, .slice a4 D.length c4, D, q0, q1, q2, q3, q4, q5, q6, rate⟩ : RuleD) = r9 at hset hok' hf'
  generalize W2.setCell ⟨w.heap.size, 7, none⟩ (.int .i64 n) = W9 at hset hE h6 hok' ⊢
  have HOK9 := hide hok'
  have HF9 := hide hf'
  have HE9 := hide hE
  clear hok' hf' hE hk okw zp zpre zH zS zD zP zl
  refine wp_region_lit ?_
  refine wpList_load_mid rfl 38 (.tmp 3) rfl w.heap.size 0 rfl (encR r9) dd (fun j v hv => by rw [Nat.zero_add]; exact hset.cellR.2 j v hv) hd1 hd2 Tryd.ruleSize ?_
  have hth : W9.there (w.heap.size + 1) 0 (encR r9).toArray.size := fun j hj => by
    have hj' : j < 19 := hj
    rw [Nat.zero_add]
    refine ⟨?_, by simp [World.frozen?, h6]⟩
    simp only [World.cell?, h6]
    simp [hj']
  refine wpList_store_mid rfl 38 (.tmp 6) (.tmp 91) rfl (w.heap.size + 1) 0 (encR r9).toArray rfl rfl hth Tryd.ruleSize (all_oneCell_toArray (encR_one' r9 (HOK9.out _ (Keeps.refl _ _)).ok)) ?_
  refine wpList_nil ?_
  have hrs := World.rangeAt_setCells_same W9 (w.heap.size + 1) 0 (encR r9) hth
  have hk5 := keeps_setCells (w.heap.size + 1) (encR r9) 0 W9
  show Exit.then _ _ _ _ (W9.setCells (w.heap.size + 1) 0 (encR r9))
  generalize W9.setCells (w.heap.size + 1) 0 (encR r9) = W10 at hrs hk5 ⊢
  have HEF := hide (Keeps.ext HE9.out hk5 (fun g hg => by omega))
  have HOF := hide (HOK9.out _ hk5)
  have HRG := hide hrs
  clear hrs hk5 hth h6 hset
  simp only [Act.put]
  go_wp2_with (fail)
  (try simp only [Exit.inBlock, Exit.then])
  refine bodyPost_ret (results_cell_mid rfl _ _ (w.heap.size + 1) 0 (encR r9) dd rfl HRG.out hd1 hd2 Tryd.ruleSize) rfl ?_
  exact ⟨r9, rfl, HOF.out, HF9.out, HEF.out⟩
set_option maxRecDepth 100000 in
set_option maxHeartbeats 8000000 in
theorem bent5 (r : RuleD) (how n : Int) (w : World) (hok : RuleIn w r) (hf : RuleFit r) (hhow : I64 how) (hn : I64 n) (hm : around how 16 = 5) :
    Calls Tryd.prog 9 #[r.val, .int .i64 how, .int .i64 n] w (BentP w) := by
  obtain ⟨dd, hd1, hd2⟩ := Tryd.ruleDesc
  have har := fun X => around_any how 16 X hhow (by omega)
  simp only [hm] at har
  have HAR := hide har
  have HN := hide hn
  have HF := hide hf
  have HOK := hide hok
  clear har hm hhow hn hf
  obtain ⟨path, ex, hv, H, pv, P, mi, ab, de, ti, pre, sv, S, dv, D, q0, q1, q2, q3, q4, q5, q6, rate⟩ := r
  obtain ⟨hH, hP, hS, hD⟩ := hok.ok
  simp only [RuleD.val] at *
  obtain ⟨_, a1, c1, rfl⟩ := hH.shape
  obtain ⟨_, a2, c2, rfl⟩ := hP.shape
  obtain ⟨_, a3, c3, rfl⟩ := hS.shape
  obtain ⟨_, a4, c4, rfl⟩ := hD.shape
  clear hH hP hS hD
  go_enter Tryd.func9, Tryd.ntmps9
  go_upto_region 1 with (fail)
  have hb3 := heap_alloc_new w (.cells #[.string path, .bool ex, .slice a1 H.length c1, .slice a2 P.length c2, .int .i64 mi, .int .i64 ab, .int .i64 de, .int .i64 ti, .string pre, .slice a3 S.length c3, .slice a4 D.length c4, .int .i64 q0, .int .i64 q1, .int .i64 q2, .int .i64 q3, .int .i64 q4, .int .i64 q5, .int .i64 q6, .int .i64 rate] 38)
  have hx3 : Ext w (w.alloc (.cells #[.string path, .bool ex, .slice a1 H.length c1, .slice a2 P.length c2, .int .i64 mi, .int .i64 ab, .int .i64 de, .int .i64 ti, .string pre, .slice a3 S.length c3, .slice a4 D.length c4, .int .i64 q0, .int .i64 q1, .int .i64 q2, .int .i64 q3, .int .i64 q4, .int .i64 q5, .int .i64 q6, .int .i64 rate] 38)) := (Below.refl _ w).alloc (Nat.le_refl _) _
  have hb6 := heap_alloc_new (w.alloc (.cells #[.string path, .bool ex, .slice a1 H.length c1, .slice a2 P.length c2, .int .i64 mi, .int .i64 ab, .int .i64 de, .int .i64 ti, .string pre, .slice a3 S.length c3, .slice a4 D.length c4, .int .i64 q0, .int .i64 q1, .int .i64 q2, .int .i64 q3, .int .i64 q4, .int .i64 q5, .int .i64 q6, .int .i64 rate] 38)) (.cells #[.string ⟨#[]⟩, .bool false, .slice none 0 0, .slice none 0 0, .int .i64 0, .int .i64 0, .int .i64 0, .int .i64 0, .string ⟨#[]⟩, .slice none 0 0, .slice none 0 0, .int .i64 0, .int .i64 0, .int .i64 0, .int .i64 0, .int .i64 0, .int .i64 0, .int .i64 0, .int .i64 0] 38)
  have hx6 : Ext (w.alloc (.cells #[.string path, .bool ex, .slice a1 H.length c1, .slice a2 P.length c2, .int .i64 mi, .int .i64 ab, .int .i64 de, .int .i64 ti, .string pre, .slice a3 S.length c3, .slice a4 D.length c4, .int .i64 q0, .int .i64 q1, .int .i64 q2, .int .i64 q3, .int .i64 q4, .int .i64 q5, .int .i64 q6, .int .i64 rate] 38)) ((w.alloc (.cells #[.string path, .bool ex, .slice a1 H.length c1, .slice a2 P.length c2, .int .i64 mi, .int .i64 ab, .int .i64 de, .int .i64 ti, .string pre, .slice a3 S.length c3, .slice a4 D.length c4, .int .i64 q0, .int .i64 q1, .int .i64 q2, .int .i64 q3, .int .i64 q4, .int .i64 q5, .int .i64 q6, .int .i64 rate] 38)).alloc (.cells #[.string ⟨#[]⟩, .bool false, .slice none 0 0, .slice none 0 0, .int .i64 0, .int .i64 0, .int .i64 0, .int .i64 0, .string ⟨#[]⟩, .slice none 0 0, .slice none 0 0, .int .i64 0, .int .i64 0, .int .i64 0, .int .i64 0, .int .i64 0, .int .i64 0, .int .i64 0, .int .i64 0] 38)) := (Below.refl _ _).alloc (Nat.le_refl _) _
  have hb36 := (hx6.block _ (Array.getElem?_eq_some_iff.1 hb3).1).trans hb3
  have hsz : (w.alloc (.cells #[.string path, .bool ex, .slice a1 H.length c1, .slice a2 P.length c2, .int .i64 mi, .int .i64 ab, .int .i64 de, .int .i64 ti, .string pre, .slice a3 S.length c3, .slice a4 D.length c4, .int .i64 q0, .int .i64 q1, .int .i64 q2, .int .i64 q3, .int .i64 q4, .int .i64 q5, .int .i64 q6, .int .i64 rate] 38)).heap.size = w.heap.size + 1 := by simp
  have hEx := hx3.trans hx6
  rw [hsz] at hb6
  generalize (w.alloc (.cells #[.string path, .bool ex, .slice a1 H.length c1, .slice a2 P.length c2, .int .i64 mi, .int .i64 ab, .int .i64 de, .int .i64 ti, .string pre, .slice a3 S.length c3, .slice a4 D.length c4, .int .i64 q0, .int .i64 q1, .int .i64 q2, .int .i64 q3, .int .i64 q4, .int .i64 q5, .int .i64 q6, .int .i64 rate] 38)).alloc (.cells #[.string ⟨#[]⟩, .bool false, .slice none 0 0, .slice none 0 0, .int .i64 0, .int .i64 0, .int .i64 0, .int .i64 0, .string ⟨#[]⟩, .slice none 0 0, .slice none 0 0, .int .i64 0, .int .i64 0, .int .i64 0, .int .i64 0, .int .i64 0, .int .i64 0, .int .i64 0, .int .i64 0] 38) = W2 at *
  have hbox : BoxR W2 w.heap.size (⟨path, ex, .slice a1 H.length c1, H, .slice a2 P.length c2, P, mi, ab, de, ti, pre, .slice a3 S.length c3, S, .slice a4 D.length c4, D, q0, q1, q2, q3, q4, q5, q6, rate⟩ : RuleD) := ⟨_, hb36, rfl⟩
  have HB := hide hbox
  have HEX := hide hEx
  have HB6 := hide hb6
  have H6O := hide hb6
  clear hb3 hx3 hb6 hx6 hb36 hsz hbox hEx
  go_wp2_with fail
  refine (HAR.out _).mono ?_
  rintro e w1 ⟨rfl, rfl⟩
  go_wp2_with fail
  refine (text_any n _ HN.out).mono ?_
  rintro e w5 ⟨s, rfl, hs, E5⟩
  have hbx := HB.out.keep (E5.block _ HB.out.lt)
  have HBX := hide hbx
  have HEX5 := hide (HEX.out.trans E5)
  have HB65 := hide ((E5.block _ (Array.getElem?_eq_some_iff.1 HB6.out).1).trans HB6.out)
  have HS := hide hs
  clear hbx HB HEX HB6 E5 hs
  have d0 : w5.cell? ⟨w.heap.size, 8, none⟩ = some (.string pre) := HBX.out.cellR.2 8 _ rfl
  have z0 := HBX.out.frozen 8
  go_upto_region 33 with (fail)
  have hset := HBX.out.set (r' := (⟨path, ex, .slice a1 H.length c1, H, .slice a2 P.length c2, P, mi, ab, de, ti, s, .slice a3 S.length c3, S, .slice a4 D.length c4, D, q0, q1, q2, q3, q4, q5, q6, rate⟩ : RuleD)) 8 (.string s) rfl
  have hk := Keeps.of_set (X := fun g => g = w.heap.size) w5 w.heap.size 8 (.string s) rfl
  have hE := Keeps.ext HEX5.out hk (fun g hg => by omega)
  have h6 := (Below.heap_setCell w5 ⟨w.heap.size, 8, none⟩ (.string s) (w.heap.size + 1) (by simp)).trans HB65.out
  have okw := HOK.out
  have hsz2 : w.heap.size + 1 < W2.heap.size := (Array.getElem?_eq_some_iff.1 H6O.out).1
  have hok' : ∀ X, Keeps (fun g => g = w.heap.size + 1) (w5.setCell ⟨w.heap.size, 8, none⟩ (.string s)) X → RuleIn X (⟨path, ex, .slice a1 H.length c1, H, .slice a2 P.length c2, P, mi, ab, de, ti, s, .slice a3 S.length c3, S, .slice a4 D.length c4, D, q0, q1, q2, q3, q4, q5, q6, rate⟩ : RuleD) := fun X hKX => by
    have hEX := Keeps.ext hE hKX (fun g hg => by omega)
    have hkk : ∀ g, Value.ownBlock (.slice (some ⟨W2.heap.size, 0, none⟩) 1 1) = some g → ¬ g = w.heap.size + 1 := fun g hg e => by
      have : g = W2.heap.size := by cases hg; rfl
      omega
    exact ⟨⟨okw.ok.1.ext hEX, okw.ok.2.1.ext hEX, okw.ok.2.2.1.ext hEX, okw.ok.2.2.2.ext hEX⟩, okw.h.ext hEX, okw.p.ext hEX, okw.s.ext hEX, okw.d.ext hEX⟩
  obtain ⟨zp, zpre, zH, zS, zD, zP, zl⟩ := HF.out
  have hf' : RuleFit (⟨path, ex, .slice a1 H.length c1, H, .slice a2 P.length c2, P, mi, ab, de, ti, s, .slice a3 S.length c3, S, .slice a4 D.length c4, D, q0, q1, q2, q3, q4, q5, q6, rate⟩ : RuleD) := ⟨zp, (by have := HS.out; unfold SzB; simp only; omega), zH, zS, zD, zP, zl⟩
  generalize (⟨path, ex, .slice a1 H.length c1, H, .slice a2 P.length c2, P, mi, ab, de, ti, s, .slice a3 S.length c3, S, .slice a4 D.length c4, D, q0, q1, q2, q3, q4, q5, q6, rate⟩ : RuleD) = r9 at hset hok' hf'
  generalize w5.setCell ⟨w.heap.size, 8, none⟩ (.string s) = W9 at hset hE h6 hok' ⊢
  have HOK9 := hide hok'
  have HF9 := hide hf'
  have HE9 := hide hE
  clear hok' hf' hE hk okw zp zpre zH zS zD zP zl
  refine wp_region_lit ?_
  refine wpList_load_mid rfl 38 (.tmp 3) rfl w.heap.size 0 rfl (encR r9) dd (fun j v hv => by rw [Nat.zero_add]; exact hset.cellR.2 j v hv) hd1 hd2 Tryd.ruleSize ?_
  have hth : W9.there (w.heap.size + 1) 0 (encR r9).toArray.size := fun j hj => by
    have hj' : j < 19 := hj
    rw [Nat.zero_add]
    refine ⟨?_, by simp [World.frozen?, h6]⟩
    simp only [World.cell?, h6]
    simp [hj']
  refine wpList_store_mid rfl 38 (.tmp 6) (.tmp 91) rfl (w.heap.size + 1) 0 (encR r9).toArray rfl rfl hth Tryd.ruleSize (all_oneCell_toArray (encR_one' r9 (HOK9.out _ (Keeps.refl _ _)).ok)) ?_
  refine wpList_nil ?_
  have hrs := World.rangeAt_setCells_same W9 (w.heap.size + 1) 0 (encR r9) hth
  have hk5 := keeps_setCells (w.heap.size + 1) (encR r9) 0 W9
  show Exit.then _ _ _ _ (W9.setCells (w.heap.size + 1) 0 (encR r9))
  generalize W9.setCells (w.heap.size + 1) 0 (encR r9) = W10 at hrs hk5 ⊢
  have HEF := hide (Keeps.ext HE9.out hk5 (fun g hg => by omega))
  have HOF := hide (HOK9.out _ hk5)
  have HRG := hide hrs
  clear hrs hk5 hth h6 hset
  simp only [Act.put]
  go_wp2_with (fail)
  (try simp only [Exit.inBlock, Exit.then])
  refine bodyPost_ret (results_cell_mid rfl _ _ (w.heap.size + 1) 0 (encR r9) dd rfl HRG.out hd1 hd2 Tryd.ruleSize) rfl ?_
  exact ⟨r9, rfl, HOF.out, HF9.out, HEF.out⟩
end Go.Proofs.YtlaaapfpchnmeaaDoor
