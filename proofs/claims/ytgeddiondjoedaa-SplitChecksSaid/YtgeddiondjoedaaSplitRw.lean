/- SplitRow: the walk. -/
import Derived.Deep.RegionLaw
import Derived.OwnWalk
import Derived.Test.YtgeddiondjoedaaSplitSc
namespace Go.Proofs.Ytgeddiondjoedaa
open Go.ChangeShapes Go.WideShapes Go.ChangeAt Go.RowKit
theorem ownsRow_full (w : World) (base : Nat) (cur : Array Value) (e : TypeId) (size n : Nat) (hb : base ≤ w.heap.size) (hm : n ≤ maxLen) (hs : cur.size = n * size) :
    (w.alloc (.cells cur e)).ownsRow base e size (.slice (some ⟨w.heap.size, 0, none⟩) n n) n cur.toList :=
  ⟨by simpa using hs, .inr ⟨w.heap.size, n, cur, rfl, hb, heap_alloc_new w _, Nat.le_refl _, hm, hs, by rw [List.take_of_length_le (by simp [hs])]⟩⟩
theorem oneCell_parts (ps : List (Int × Int)) : ∀ u ∈ ps.flatMap encP, u.oneCell' = true := by
  intro u hu
  obtain ⟨p, _, hp⟩ := List.mem_flatMap.1 hu
  simp [encP] at hp
  rcases hp with rfl | rfl <;> rfl
theorem sumW_append (a b : List (Int × Int)) : sumW (a ++ b) = sumW a + sumW b := by simp [sumW]
theorem weighs_append (a b : List (Int × Int)) (s : Int) : weighs (a ++ b) s = weighs a s + weighs b s := by simp [weighs]

set_option maxHeartbeats 4000000 in
set_option maxRecDepth 100000 in
theorem row_walk (m : List Int) (v : Value) (t : Int) (w : World) (hs : Ints w v m) (hm : ∀ x ∈ m, I64 x) (ht : I64 t) :
    Calls Try.prog 7 #[v, .int .i64 t] w fun e w' => e = .returned (.bool true) ∧ Ext w w' := by
  have HS := hide hs
  have HM := hide hm; clear hm
  obtain ⟨_, a, cap, rfl⟩ := hs.shape
  clear hs
  obtain ⟨i0, hi, hz0, hz1, hz2⟩ := info_parts Try.info25
  have hfi := made_fine m
  have hl4 := made_len4 m
  have hp1 := made_pos m
  have hp2 := made_le m
  have hmem := made_mem m
  have hmade := made_any m _ w HS.out HM.out
  obtain ⟨ps, hps⟩ : ∃ ps, made m = ps := ⟨_, rfl⟩
  rw [hps] at hfi hl4 hp1 hp2 hmem hmade
  have HMADE := hide hmade
  clear hmade hps
  have HFI := hide hfi; have HMEM := hide hmem
  clear hfi hmem
  have hk := around_bd t ps.length (by omega)
  obtain ⟨k, hkk⟩ : ∃ k : Nat, around t ps.length = k := ⟨(around t ps.length).toNat, by omega⟩
  rw [hkk] at hk
  have HK := hide hkk; clear hkk
  have hkl : k < ps.length := by omega
  have hk0 : 0 ≤ (k : Int) := hk.1
  have hk1 : (k : Int) < ps.length := hk.2
  go_enter Try.func7, Try.ntmps7
  go_wp2_with fail
  refine HMADE.out.mono ?_
  rintro e w1 ⟨xv, rfl, hx, h1⟩
  have HXX := hide hx
  obtain ⟨hxl, ax, cx, rfl⟩ := hx.shape
  obtain ⟨b, off, rfl, hbb⟩ := hx.some (by omega)
  obtain ⟨_, hcx, hcx2⟩ := hx.cap
  clear hx
  have hcx' : (ps.length : Int) ≤ cx := by omega
  have hcx2' : (cx : Int) ≤ 9223372036854775807 := by omega
  go_wp2_with fail
  refine (around_any t ps.length _ ht (by omega)).mono ?_
  rintro e w2 ⟨rfl, rfl⟩
  rw [HK.out]
  go_wp2_with fail
  have hkn : k ≤ ps.length := by omega
  have hkc : k ≤ cx := by omega
  have hcne : ¬ cx = k := by omega
  have hd := HXX.out.drop k (by omega)
  have htk := HXX.out.take k (by omega)
  have e0 : Ext w1 (w1.alloc (.cells #[] 25)).drew := ((Below.refl _ w1).alloc (Nat.le_refl _) _).drew
  have HDR := hide (hd.ext e0)
  have HTK := hide htk
  clear hd htk
  have tok1 : True := trivial
  go_region_law (first
    | (have _t := tok1; refine step_append_own (by rfl) _ _ _ (by rfl) w1.heap.size 25 i0 _ 2 16 Try.underlying22 hi hz0 hz1 hz2 rfl (by omega) (.slice (some ⟨w1.heap.size, 0, none⟩) 0 0) 0 [] (by rfl) ((World.ownsRow_made (size := 2) (e := 25) w1 #[] 0 (Nat.le_refl _) (by decide) (by rfl)).drew) ⟨b, off + k * 2, none⟩ (ps.length - k) (cx - k) ((ps.drop k).flatMap encP) (by rfl) (by rw [length_flatMap_enc encP_len, List.length_drop]) (HDR.out.news encP_len (by decide)) (oneCell_parts _) (by unfold maxLen; omega) (by omega) (by simp) ?_; intro v1 w3 hown1 hgrow1 _; clear tok1; go_loud (have e1 : Ext w1 w3 := Ext.appD' (Below.refl _ _) (Nat.le_refl _) hgrow1); have hbs : w1.heap.size ≤ w3.heap.size := e1.size)
    | (refine step_append_own (by rfl) _ _ _ (by rfl) w1.heap.size 25 i0 _ 2 16 Try.underlying22 hi hz0 hz1 hz2 rfl (by omega) v1 (0 + (ps.length - k)) _ (by rfl) hown1 ⟨b, off, none⟩ k cx ((ps.take k).flatMap encP) (by rfl) (by rw [length_flatMap_enc encP_len, List.length_take]; congr 1; omega) ((HTK.out.ext e1).news encP_len (by decide)) (oneCell_parts _) (by unfold maxLen; omega) (by omega) hbs ?_; intro v2 w4 hown2 hgrow2 _))
  have e2 : Ext w1 w4 := e1.grown hgrow2 hbs (fun r hr => (hown1.lt r hr).1)
  have hrl : (ps.drop k ++ ps.take k).length = ps.length := by rw [List.length_append, List.length_drop, List.length_take]; omega
  have hY : Parts w4 v2 (ps.drop k ++ ps.take k) := by
    refine Sl.of_own encP_len (base := w1.heap.size) (e := 25) ?_ (by rw [hrl]; omega)
    rw [hrl, List.flatMap_append]
    have e : 0 + (ps.length - k) + k = ps.length := by omega
    rw [e, List.nil_append] at hown2
    exact hown2
  obtain ⟨ys, hys⟩ : ∃ ys, ps.drop k ++ ps.take k = ys := ⟨_, rfl⟩
  rw [hys] at hY hrl
  have HY := hide hY
  obtain ⟨_, ay, cy, rfl⟩ := hY.shape
  rw [hrl] at HY ⊢
  clear hY hown2 hown1 hgrow1 hgrow2 HTK HDR e0
  have hyw : ∀ s, weighs ys s = weighs ps s := fun s => by
    rw [← hys, weighs_append]
    have := weighs_append (ps.take k) (ps.drop k) s
    rw [List.take_append_drop] at this
    omega
  have hysum : sumW ys = sumW ps := by
    rw [← hys, sumW_append]
    have := sumW_append (ps.take k) (ps.drop k)
    rw [List.take_append_drop] at this
    omega
  have hymem : ∀ p ∈ ys, p ∈ ps := fun p hp => by
    rw [← hys] at hp
    rcases List.mem_append.1 hp with h | h
    · exact List.mem_of_mem_drop h
    · exact List.mem_of_mem_take h
  have hyf : Fine ys := ⟨fits_of (by rw [hrl]; omega) (fun p hp => by have := HMEM.out p (hymem p hp); omega), fun p hp => (HMEM.out p (hymem p hp)).2.1, by rw [hysum]; omega, fun p hp => by have := HMEM.out p (hymem p hp); omega⟩
  have hzw : ∀ s, weighs ((9, 0) :: ps) s = weighs ps s := fun s => by rw [weighs_cons]; split <;> simp
  have hzsum : sumW ((9, 0) :: ps) = sumW ps := by rw [sumW_cons]; simp
  have hzf : Fine ((9, 0) :: ps) := ⟨fits_of (by simp; omega) (fun p hp => by
    rcases List.mem_cons.1 hp with rfl | h
    · decide
    · have := HMEM.out p h; omega), fun p hp => by
    rcases List.mem_cons.1 hp with rfl | h
    · decide
    · exact (HMEM.out p h).2.1, by rw [hzsum]; omega, fun p hp => by
    rcases List.mem_cons.1 hp with rfl | h
    · decide
    · have := HMEM.out p h; omega⟩
  obtain ⟨S, hS⟩ : ∃ S, sumW ps = S := ⟨_, rfl⟩
  obtain ⟨n, hn⟩ : ∃ n : Nat, S = n := ⟨S.toNat, by omega⟩
  have hn1 : n = 1 * (sumW ps).toNat := by omega
  have hcy : cnts ys 0 n = cnts ps 0 n := by
    unfold cnts
    apply List.map_congr_left
    intro s _
    have h1 := cnt_exact ps HFI.out.nonneg HFI.out.pos 0 1 (s : Int)
    have h2 := cnt_exact ys hyf.nonneg hyf.pos 0 1 (s : Int)
    rw [hysum, ← hn1, hyw] at h2
    rw [← hn1] at h1
    omega
  have hcz : cnts ((9, 0) :: ps) 0 n = cnts ps 0 n := by
    unfold cnts
    apply List.map_congr_left
    intro s _
    have h1 := cnt_exact ps HFI.out.nonneg HFI.out.pos 0 1 (s : Int)
    have h2 := cnt_exact ((9, 0) :: ps) hzf.nonneg hzf.pos 0 1 (s : Int)
    rw [hzsum, ← hn1, hzw] at h2
    rw [← hn1] at h1
    omega
  rw [hS] at hp1 hp2 hysum hzsum
  obtain ⟨zs, hzs⟩ : ∃ zs, (9, 0) :: ps = zs := ⟨_, rfl⟩
  rw [hzs] at hzf hcz hzsum
  have HZZ := hide hzs
  clear hzs
  have HSS := hide hS; have HYF := hide hyf; have HZF := hide hzf; have HCY := hide hcy; have HCZ := hide hcz; have HYS := hide hysum; have HZS := hide hzsum; have HN := hide hn
  clear hS hyf hzf hcy hcz hysum hzsum hyw hzw hymem hn1 hys
  have hX4 := HXX.out.ext e2
  have HX := hide hX4
  clear hX4
  have hb4 : (n : Int) ≤ 36 := by omega
  clear hn
  have hsz4 := e2.size
  have htz : Ext w4 (w4.alloc (.cells #[.int .i64 9, .int .i64 0] 25)) := (Below.refl _ _).alloc (Nat.le_refl _) _
  go_wp2_with (at_builtin; refine wpList_append_own _ (by rfl) _ _ 22 (by rfl) w4.heap.size 25 i0 (.agg #[.int .i64 0, .int .i64 0]) 2 16 Try.underlying22 hi hz0 hz1 hz2 rfl (by decide) (.slice (some ⟨w4.heap.size, 0, none⟩) 1 1) 1 [.int .i64 9, .int .i64 0] (by rfl) (ownsRow_full w4 w4.heap.size #[.int .i64 9, .int .i64 0] 25 2 1 (Nat.le_refl _) (by decide) rfl) ⟨b, off, none⟩ ps.length cx (ps.flatMap encP) (by rfl) (by rw [length_flatMap_enc encP_len]) ((HX.out.ext htz).news encP_len (by decide)) (oneCell_parts _) (by unfold maxLen; omega) (by omega) (by simp) ?_; intro v3 w5 hown3 hgrow3 _)
  have e5 : Ext w4 w5 := (htz).grown hgrow3 (by simp) (fun r hr => by simp [Value.ownBlock] at hr; omega)
  have hZ : Parts w5 v3 zs := by
    rw [← HZZ.out]
    refine Sl.of_own encP_len (base := w4.heap.size) (e := 25) ?_ (by simp; omega)
    have e : 1 + ps.length = ((9, 0) :: ps : List (Int × Int)).length := by simp; omega
    rw [e] at hown3
    exact hown3
  have HZ := hide hZ
  obtain ⟨hzl, az, cz, rfl⟩ := hZ.shape
  clear hZ hown3 hgrow3
  have HRL := hide hrl
  clear hrl htz
  refine (sum_any ps _ _ (HX.out.ext e5) HFI.out.fits).mono ?_
  rintro e w6 ⟨rfl, h6⟩
  rw [HSS.out, HN.out]
  have hb1 : 1 ≤ (n : Int) := by have := HN.out; omega
  have E6 := e5.trans h6
  go_wp2_with fail
  refine (counts_any ps _ 0 n _ (HX.out.ext E6) HFI.out (by omega) (by omega)).mono ?_
  rintro e w7 ⟨av, rfl, hav, h7⟩
  have HAV := hide hav
  obtain ⟨hal, aa, ca, rfl⟩ := hav.shape
  clear hav
  rw [cnts_len] at hal ⊢
  have E7 := E6.trans h7
  go_wp2_with fail
  refine (counts_any ys _ 0 n _ (HY.out.ext E7) HYF.out (by omega) (by omega)).mono ?_
  rintro e w8 ⟨bv, rfl, hbv, h8⟩
  rw [HCY.out] at hbv
  have HBV := hide hbv
  obtain ⟨hbl, ab, cb, rfl⟩ := hbv.shape
  clear hbv
  rw [cnts_len] at hbl ⊢
  have E8 := E7.trans h8
  go_wp2_with fail
  refine (counts_any zs _ 0 n _ (((HZ.out.ext h6).ext h7).ext h8) HZF.out (by omega) (by omega)).mono ?_
  rintro e w9 ⟨cv, rfl, hcv, h9⟩
  rw [HCZ.out] at hcv
  have HCV := hide hcv
  obtain ⟨hcl, ac, cc, rfl⟩ := hcv.shape
  clear hcv
  rw [cnts_len] at hcl ⊢
  have hA9 := (HAV.out.ext h8).ext h9
  have hB9 := HBV.out.ext h9
  have HA9 := hide hA9; have HB9 := hide hB9
  clear hA9 hB9
  have E9 := E8.trans h9
  have hsame : sameInts (cnts ps 0 n) (cnts ps 0 n) = true := decide_eq_true rfl
  have HSAME := hide hsame; clear hsame
  go_wp2_with fail
  have ca1 := sameInts_any (cnts ps 0 n) (cnts ps 0 n) _ _ w9 HA9.out HB9.out
  rw [cnts_len, HSAME.out] at ca1
  refine ca1.mono ?_
  rintro e w10 ⟨rfl, h10⟩
  have hC10 := HCV.out.ext h10
  have hA10 := HA9.out.ext h10
  have HC10 := hide hC10; have HA10 := hide hA10
  clear hC10 hA10 ca1
  go_wp2_with fail
  have ca2 := sameInts_any (cnts ps 0 n) (cnts ps 0 n) _ _ w10 HA10.out HC10.out
  rw [cnts_len, HSAME.out] at ca2
  refine ca2.mono ?_
  rintro e w11 ⟨rfl, h11⟩
  clear ca2
  have E11 := (E9.trans h10).trans h11
  go_wp2_with fail
  refine (sum_any ys _ _ (HY.out.ext E11) HYF.out.fits).mono ?_
  rintro e w12 ⟨rfl, h12⟩
  rw [HYS.out, HN.out]
  go_wp2_with fail
  refine (sum_any zs _ _ ((((((HZ.out.ext h6).ext h7).ext h8).ext h9).ext h10).ext h11 |>.ext h12) HZF.out.fits).mono ?_
  rintro e w13 ⟨rfl, h13⟩
  rw [HZS.out, HN.out]
  go_wp2_with fail
  refine (lives_any _).mono ?_
  rintro e w14 ⟨rfl, h14⟩
  go_wp2_with fail
  go_ret
  exact ⟨rfl, ((((h1.trans e2).trans E11).trans h12).trans h13).trans h14⟩
end Go.Proofs.Ytgeddiondjoedaa
