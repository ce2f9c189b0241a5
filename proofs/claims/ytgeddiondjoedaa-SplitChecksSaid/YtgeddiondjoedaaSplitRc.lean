/- The reference's Check of parts. -/
import Derived.Test.YtgeddiondjoedaaSplitRw
namespace Go.Proofs.Ytgeddiondjoedaa
open Go.ChangeShapes Go.WideShapes Go.ChangeAt Go.RowKit
set_option maxHeartbeats 4000000 in
theorem rcheck_any (ps : List (Int × Int)) (v : Value) (w : World) (hs : Parts w v ps) (hp : ∀ p ∈ ps, I64 p.1 ∧ I64 p.2) (hl : ps.length ≤ 1000000) :
    Calls Try.prog 15 #[v] w fun e w' => e = .returned (.int .i64 (check ps)) ∧ Ext w w' := by
  have HC := hide hs
  have HP := hide hp; clear hp
  obtain ⟨hl', a, cap, rfl⟩ := hs.shape
  clear hs
  go_enter Try.func15, Try.ntmps15
  go_wp2
  go_loopw [3, 4] (fun s i wr => ∃ k : Nat, k ≤ ps.length ∧ i = .int .i64 k ∧ s = .int .i64 (sumW (ps.take k)) ∧ Ext w wr ∧ wellTo ps k ∧ checkGo ps [] = checkGo (ps.drop k) (firsts (ps.take k))) (fun _ i _ => ps.length - (intOf i).toNat)
  case atStart => exact ⟨0, Nat.zero_le _, rfl, rfl, Below.refl _ _, fun i h hi => by omega, rfl⟩
  case round =>
    obtain ⟨k, hk, rfl, rfl, hE, hW, hG⟩ := hrel
    have hsb : 0 ≤ sumW (ps.take k) ∧ sumW (ps.take k) ≤ 100 * k := by
      have hw : ∀ p ∈ ps.take k, 0 ≤ p.2 ∧ p.2 ≤ 100 := by
        intro p hp
        obtain ⟨i, hi, rfl⟩ := List.getElem_of_mem hp
        rw [List.length_take] at hi
        rw [List.getElem_take]
        exact hW i (by omega) (by omega)
      have h1 := sumW_nonneg (ps.take k) (fun p hp => (hw p hp).1)
      have h2 := sumW_take_le (ps := ps.take k) (B := 100) (fun p hp => (hw p hp).2)
      rw [List.length_take] at h2
      omega
    have HW := hide hW
    have HG := hide hG
    clear hW hG
    by_cases hlt : k < ps.length
    · obtain ⟨b, off, rfl, hbb, c0, c1⟩ := parts_at (HC.out.ext hE) k hlt
      have hpk := HP.out ps[k] (List.getElem_mem _)
      unfold I64 at hpk
      have hd := checkGo_drop ps k hlt
      have HD := hide hd; clear hd
      by_cases h1 : ps[k].1 < 1
      · have hf : check ps = 13 := by
          have : checkGo ps [] = 13 := by rw [HG.out, HD.out, if_pos (.inl h1)]
          rw [check, this]; rfl
        have HF := hide hf; clear hf
        go_wp2
        go_ret
        exact ⟨ret_int HF.out.symm, hE⟩
      by_cases h2 : 10 < ps[k].1
      · have hf : check ps = 13 := by
          have : checkGo ps [] = 13 := by rw [HG.out, HD.out, if_pos (.inr (.inl h2))]
          rw [check, this]; rfl
        have HF := hide hf; clear hf
        go_wp2
        go_ret
        exact ⟨ret_int HF.out.symm, hE⟩
      have h1' : 1 ≤ ps[k].1 := by omega
      have h2' : ps[k].1 ≤ 10 := by omega
      go_wp2
      obtain ⟨wo, rfl⟩ : ∃ wo : World, wo = wr := ⟨_, rfl⟩
      go_loopw [5] (fun j wq => ∃ q : Nat, q ≤ k ∧ j = .int .i64 q ∧ Ext w wq ∧ ps[k].1 ∉ firsts (ps.take q)) (fun j _ => k - (intOf j).toNat)
      case atStart => exact ⟨0, Nat.zero_le _, rfl, hE, by simp [firsts]⟩
      case round =>
        obtain ⟨q, hq, rfl, hEq, hno⟩ := hrel
        have HNO := hide hno; clear hno
        obtain ⟨_, _, heq0, hbb0, c00, c01⟩ := parts_at (HC.out.ext hEq) k hlt
        cases heq0
        by_cases hqk : q < k
        · obtain ⟨_, _, heq, hbb', d0, d1⟩ := parts_at (HC.out.ext hEq) q (by omega)
          cases heq
          by_cases hsame : ps[q].1 = ps[k].1
          · have hsb' : (ps[q].1 == ps[k].1) = true := by simp [hsame]
            have hf : check ps = 13 := by
              have hm : ps[k].1 ∈ firsts (ps.take k) := by
                rw [← hsame]
                refine List.mem_map.2 ⟨ps[q], ?_, rfl⟩
                rw [List.mem_take_iff_getElem]
                exact ⟨q, by omega, rfl⟩
              have : checkGo ps [] = 13 := by rw [HG.out, HD.out, if_pos (.inr (.inr hm))]
              rw [check, this]; rfl
            have HF := hide hf; clear hf hsame
            go_wp2
            go_quiet (fail)
            go_wp2
            go_ret
            exact ⟨ret_int HF.out.symm, Below.drewN' hEq _⟩
          · have hsb' : (ps[q].1 == ps[k].1) = false := by simp [hsame]
            have HS := hide hsame; clear hsame
            go_wp2
            go_quiet (fail)
            go_wp2
            go_roundw
            case rel =>
              refine ⟨q + 1, by omega, by go_num, Below.drewN' hEq _, ?_⟩
              rw [take_snoc ps q (by omega)]
              simp only [firsts, List.map_append, List.map_cons, List.map_nil, List.mem_append, List.mem_singleton, not_or]
              exact ⟨HNO.out, fun e => HS.out e.symm⟩
            case measure => simp [intOf]; omega
        · obtain rfl : q = k := by omega
          have n1 : ¬ (ps[q].1 < 1 ∨ 10 < ps[q].1 ∨ ps[q].1 ∈ firsts (ps.take q)) := by rintro (h | h | h); omega; omega; exact HNO.out h
          have N1 := hide n1; clear n1
          by_cases h4 : ps[q].2 < 0
          · have hf : check ps = 12 := by
              have : checkGo ps [] = 12 := by rw [HG.out, HD.out, if_neg N1.out, if_pos (.inl h4)]
              rw [check, this]; rfl
            have HF := hide hf; clear hf
            go_wp2
            go_ret
            exact ⟨ret_int HF.out.symm, hEq⟩
          by_cases h5 : 100 < ps[q].2
          · have hf : check ps = 12 := by
              have : checkGo ps [] = 12 := by rw [HG.out, HD.out, if_neg N1.out, if_pos (.inr h5)]
              rw [check, this]; rfl
            have HF := hide hf; clear hf
            go_wp2
            go_ret
            exact ⟨ret_int HF.out.symm, hEq⟩
          have hf : checkGo ps [] = checkGo (ps.drop (q+1)) (firsts (ps.take (q+1))) := by rw [HG.out, HD.out, if_neg N1.out, if_neg (by omega)]
          have HF := hide hf; clear hf
          have h4' : 0 ≤ ps[q].2 := by omega
          have h5' : ps[q].2 ≤ 100 := by omega
          have hsum := sumW_snoc ps q hlt
          have HSUM := hide hsum; clear hsum
          go_wp2
          go_roundw
          case rel =>
            refine ⟨q + 1, by omega, by go_num, by rw [HSUM.out], hEq, ?_, HF.out⟩
            intro i hi hik
            by_cases e : i = q
            · subst e; exact ⟨h4', h5'⟩
            · exact HW.out i hi (by omega)
          case measure => simp [intOf]; omega
    · have hge : ps.length ≤ k := by omega
      have htk : ps.take k = ps := List.take_of_length_le hge
      have hz : checkGo ps [] = 0 := by rw [HG.out, List.drop_eq_nil_of_le hge]; rfl
      by_cases h6 : sumW ps = 0
      · have hf : check ps = 12 := by rw [check, hz, if_neg (by simp), if_pos h6]
        have HF := hide hf; clear hf hz
        have h6' : (sumW (ps.take k) == 0) = true := by rw [htk]; simp [h6]
        clear h6 htk
        go_wp2
        go_ret
        exact ⟨ret_int HF.out.symm, hE⟩
      · have hf : check ps = 0 := by rw [check, hz, if_neg (by simp), if_neg h6]
        have HF := hide hf; clear hf hz
        have h6' : (sumW (ps.take k) == 0) = false := by rw [htk]; simp [h6]
        clear h6 htk
        go_wp2
        go_ret
        exact ⟨ret_int HF.out.symm, hE⟩
end Go.Proofs.Ytgeddiondjoedaa
