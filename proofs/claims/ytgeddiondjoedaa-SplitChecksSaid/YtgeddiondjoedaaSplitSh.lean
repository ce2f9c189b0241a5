/- SplitShares: the walk. -/
import Derived.Test.YtgeddiondjoedaaSplitEc
namespace Go.Proofs.Ytgeddiondjoedaa
open Go.ChangeShapes Go.WideShapes Go.ChangeAt Go.RowKit
theorem weighs_zero (l : List (Int × Int)) (s : Int) (h : s ∉ firsts l) : weighs l s = 0 := by
  induction l with
  | nil => rfl
  | cons p l ih =>
    simp only [firsts, List.map_cons, List.mem_cons, not_or] at h
    rw [weighs_cons, if_neg (fun e => h.1 e.symm), ih h.2]; rfl
theorem weighs_own (ps : List (Int × Int)) (h : (firsts ps).Nodup) (i : Nat) (hi : i < ps.length) : weighs ps ps[i].1 = ps[i].2 := by
  induction ps generalizing i with
  | nil => simp at hi
  | cons p l ih =>
    simp only [firsts, List.map_cons, List.nodup_cons] at h
    cases i with
    | zero =>
      rw [weighs_cons]
      simp only [List.getElem_cons_zero, if_true]
      rw [weighs_zero l p.1 h.1]; omega
    | succ i =>
      rw [weighs_cons]
      simp only [List.getElem_cons_succ]
      have hi' : i < l.length := by simpa using hi
      have hne : p.1 ≠ l[i].1 := fun e => h.1 (by rw [e]; exact List.mem_map.2 ⟨l[i], List.getElem_mem _, rfl⟩)
      rw [if_neg hne, ih h.2 i hi']; omega
theorem made_nodup (m : List Int) : (firsts (made m)).Nodup := by
  have hn := madeN_bd m
  have hl := made_len4 m
  have hlen : (firsts (made m)).length = (made m).length := by simp [firsts]
  rw [List.nodup_iff_pairwise_ne, List.pairwise_iff_getElem]
  intro i j hi hj hij
  have e : ∀ k (hk : k < (firsts (made m)).length), (firsts (made m))[k] = 1 + (madeN m / 4 + k) % 5 := by
    intro k hk
    simp only [firsts, List.getElem_map]
    rw [made_get]; rfl
  rw [e i hi, e j hj]
  omega

set_option maxHeartbeats 4000000 in
theorem shares_walk (m : List Int) (v : Value) (f t : Int) (w : World) (hs : Ints w v m) (hm : ∀ x ∈ m, I64 x) (hf : U64 f) (ht : I64 t) :
    Calls Try.prog 5 #[v, .int .u64 f, .int .i64 t] w fun e w' => e = .returned (.bool true) ∧ Ext w w' := by
  have HS := hide hs
  have HM := hide hm; clear hm
  obtain ⟨_, a, cap, rfl⟩ := hs.shape
  clear hs
  have hfi := made_fine m
  have hnd := made_nodup m
  have hl4 := made_len4 m
  have hp1 := made_pos m
  have hp2 := made_le m
  have hmem := made_mem m
  have hmade := made_any m _ w HS.out HM.out
  obtain ⟨ps, hps⟩ : ∃ ps, made m = ps := ⟨_, rfl⟩
  rw [hps] at hfi hnd hl4 hp1 hp2 hmem hmade
  have HMADE := hide hmade
  clear hmade hps
  have HFI := hide hfi; have HND := hide hnd; have HMEM := hide hmem
  clear hfi hnd hmem
  obtain ⟨S, hS⟩ : ∃ S, sumW ps = S := ⟨_, rfl⟩
  have HSS := hide hS
  rw [hS] at hp1 hp2
  clear hS
  have hf0 : 0 ≤ f := hf.1
  have hd1 : 0 ≤ f % 9223372036854775808 := by omega
  have hd2 : f % 9223372036854775808 ≤ 9223372036854775807 := by omega
  obtain ⟨D, hD⟩ : ∃ D : Nat, f % 9223372036854775808 = D := ⟨(f % 9223372036854775808).toNat, by omega⟩
  rw [hD] at hd1 hd2
  have HD := hide hD; clear hD
  have hk := around_bd t 3 (by omega)
  obtain ⟨k, hkk⟩ : ∃ k, around t 3 = k := ⟨_, rfl⟩
  rw [hkk] at hk
  have HK := hide hkk; clear hkk
  have hkS0 : 0 ≤ (1 + k) * S := Int.mul_nonneg (by omega) (by omega)
  have hkS1 : (1 + k) * S ≤ 3 * 36 := Int.mul_le_mul (by omega) hp2 (by omega) (by omega)
  obtain ⟨N, hN⟩ : ∃ N : Nat, (1 + k) * S = N := ⟨((1 + k) * S).toNat, by omega⟩
  have hN' : N = (1 + k).toNat * (sumW ps).toNat := by
    have h1 : ((1 + k).toNat : Int) = 1 + k := by omega
    have h2 : ((sumW ps).toNat : Int) = S := by rw [HSS.out]; omega
    have h3 : ((((1 + k).toNat * (sumW ps).toNat) : Nat) : Int) = (1 + k) * S := by rw [Int.natCast_mul, h1, h2]
    omega
  have hcnt : ∀ i (hi : i < ps.length), (cnt ps D N ps[i].1 : Int) = (1 + k) * ps[i].2 := by
    intro i hi
    rw [hN', cnt_exact ps HFI.out.nonneg HFI.out.pos, weighs_own ps HND.out i hi]
    congr 1
    omega
  have HCNT := hide hcnt; clear hcnt hN'
  have hNb : (N : Int) ≤ 108 := by omega
  have HN := hide hN; clear hN
  go_enter Try.func5, Try.ntmps5
  go_wp2_with fail
  refine HMADE.out.mono ?_
  rintro e w1 ⟨xv, rfl, hx, h1⟩
  have HXX := hide hx
  obtain ⟨hxl, ax, cx, rfl⟩ := hx.shape
  clear hx
  go_wp2_with fail
  refine (around_any t 3 _ ht (by omega)).mono ?_
  rintro e w2 ⟨rfl, rfl⟩
  rw [HK.out]
  go_wp2_with fail
  refine (sum_any ps _ _ HXX.out HFI.out.fits).mono ?_
  rintro e w2 ⟨rfl, h2⟩
  rw [HSS.out]
  go_wp2_with fail
  rw [HN.out, HD.out]
  refine (counts_any ps _ D N _ (HXX.out.ext h2) HFI.out (by omega) (by omega)).mono ?_
  rintro e w3 ⟨nv, rfl, hn, h3⟩
  have HNV := hide hn
  obtain ⟨hnl, an, cn, rfl⟩ := hn.shape
  clear hn
  rw [cnts_len] at hnl ⊢
  go_wp2_with fail
  go_loopw [11, 12] (fun al iv wr => ∃ i : Nat, i ≤ ps.length ∧ iv = .int .i64 i ∧ al = .int .i64 ((1 + k) * sumW (ps.take i)) ∧ Ext w3 wr) (fun _ iv _ => ps.length - (intOf iv).toNat)
  case atStart => exact ⟨0, Nat.zero_le _, rfl, by simp [sumW], Below.refl _ _⟩
  case round =>
    obtain ⟨i, hi, rfl, rfl, hE⟩ := hrel
    by_cases hlt : i < ps.length
    · obtain ⟨b, off, rfl, hbb, c0, c1⟩ := parts_at (((HXX.out.ext h2).ext h3).ext hE) i hlt
      have hmm := HMEM.out ps[i] (List.getElem_mem _)
      obtain ⟨bn, offn, rfl, hbn, cn0⟩ := ints_at (HNV.out.ext hE) ps[i].1.toNat (by rw [cnts_len]; omega)
      have hcn : wr.cell? ⟨bn, offn + ps[i].1.toNat, none⟩ = some (.int .i64 ((1 + k) * ps[i].2)) := by
        rw [cnts_get, Int.toNat_of_nonneg (by omega), HCNT.out i hlt] at cn0
        exact cn0
      clear cn0
      have hw0 : 0 ≤ (1 + k) * ps[i].2 := Int.mul_nonneg (by omega) (by omega)
      have hw1 : (1 + k) * ps[i].2 ≤ 3 * 9 := Int.mul_le_mul (by omega) (by omega) (by omega) (by omega)
      have hsb := HFI.out.fits i hi
      have hsn := sumW_nonneg (ps.take i) (fun p hp => HFI.out.nonneg p (List.mem_of_mem_take hp))
      have hsl : sumW (ps.take i) ≤ 36 := by
        have := sumW_take_le (ps := ps.take i) (B := 9) (fun p hp => (HMEM.out p (List.mem_of_mem_take hp)).2.2)
        rw [List.length_take] at this
        have : ((min i ps.length : Nat) : Int) ≤ 4 := by omega
        omega
      have ha0 : 0 ≤ (1 + k) * sumW (ps.take i) := Int.mul_nonneg (by omega) hsn
      have ha1 : (1 + k) * sumW (ps.take i) ≤ 3 * 36 := Int.mul_le_mul (by omega) hsl hsn (by omega)
      have hst : (1 + k) * sumW (ps.take (i+1)) = (1 + k) * sumW (ps.take i) + (1 + k) * ps[i].2 := by rw [sumW_snoc ps i hlt, Int.mul_add]
      have HST := hide hst; clear hst hsb
      have hx0 : 1 ≤ ps[i].1 := hmm.1.1
      have hx1 : ps[i].1 ≤ 5 := hmm.1.2
      go_wp2
      go_quiet (fail)
      go_wp2
      go_roundw
      case rel => exact ⟨i + 1, by omega, by go_num, by rw [HST.out], Below.drewN' hE _⟩
      case measure => simp [intOf]; omega
    · have hge : ps.length ≤ i := by omega
      have hall : (1 + k) * sumW (ps.take i) = (1 + k) * S := by rw [List.take_of_length_le hge, HSS.out]
      have halb : ((1 + k) * sumW (ps.take i) == (1 + k) * S) = true := by rw [hall]; simp
      have HALB := hide hall; clear hall
      go_wp2_with fail
      refine (lives_any _).mono ?_
      rintro e w4 ⟨rfl, h4⟩
      go_wp2_with fail
      go_ret
      exact ⟨rfl, (((h1.trans h2).trans h3).trans hE).trans h4⟩
end Go.Proofs.Ytgeddiondjoedaa
