/- SplitScale: the walk. -/
import Derived.Deep.RegionHeld3
import Derived.Deep.AppendLies
import Derived.OwnWalk
import Derived.Test.YtgeddiondjoedaaSplitSh
namespace Go.Proofs.Ytgeddiondjoedaa
open Go.ChangeShapes Go.WideShapes Go.ChangeAt Go.RowKit
def scaled (k : Int) (ps : List (Int × Int)) : List (Int × Int) := ps.map fun p => (p.1, k * p.2)
theorem scaled_sum (k : Int) (ps : List (Int × Int)) : sumW (scaled k ps) = k * sumW ps := by
  induction ps with
  | nil => simp [scaled, sumW]
  | cons p l ih =>
    have : scaled k (p :: l) = (p.1, k * p.2) :: scaled k l := rfl
    rw [this, sumW_cons, sumW_cons, ih, Int.mul_add]
theorem scaled_weighs (k : Int) (ps : List (Int × Int)) (s : Int) : weighs (scaled k ps) s = k * weighs ps s := by
  induction ps with
  | nil => simp [scaled, weighs]
  | cons p l ih =>
    have : scaled k (p :: l) = (p.1, k * p.2) :: scaled k l := rfl
    rw [this, weighs_cons, weighs_cons, ih, Int.mul_add]
    split <;> simp
theorem check_ok (ps : List (Int × Int)) (hn : (firsts ps).Nodup) (hs : ∀ p ∈ ps, 1 ≤ p.1 ∧ p.1 ≤ 10) (hw : ∀ p ∈ ps, 0 ≤ p.2 ∧ p.2 ≤ 100) (h : sumW ps ≠ 0) : check ps = 0 := by
  have key : ∀ (l : List (Int × Int)) (seen : List Int), (firsts l).Nodup → (∀ p ∈ l, p.1 ∉ seen) → (∀ p ∈ l, 1 ≤ p.1 ∧ p.1 ≤ 10) → (∀ p ∈ l, 0 ≤ p.2 ∧ p.2 ≤ 100) → checkGo l seen = 0 := by
    intro l
    induction l with
    | nil => intros; rfl
    | cons p l ih =>
      intro seen h1 h2 h3 h4
      simp only [firsts, List.map_cons, List.nodup_cons] at h1
      have a1 := h3 p (by simp)
      have a2 := h4 p (by simp)
      have a3 := h2 p (by simp)
      rw [checkGo, if_neg (by rintro (h | h | h); omega; omega; exact a3 h), if_neg (by omega)]
      refine ih _ h1.2 ?_ (fun q hq => h3 q (by simp [hq])) (fun q hq => h4 q (by simp [hq]))
      intro q hq hm
      rcases List.mem_append.1 hm with hm | hm
      · exact h2 q (by simp [hq]) hm
      · rw [List.mem_singleton] at hm
        exact h1.1 (by rw [← hm]; exact List.mem_map.2 ⟨q, hq, rfl⟩)
  rw [check, key ps [] hn (fun _ _ h => by simp at h) hs hw, if_neg (by simp), if_neg h]

set_option maxHeartbeats 4000000 in
theorem scale_walk (m : List Int) (v : Value) (t : Int) (w : World) (hs : Ints w v m) (hm : ∀ x ∈ m, I64 x) (ht : I64 t) :
    Calls Try.prog 8 #[v, .int .i64 t] w fun e w' => e = .returned (.bool true) ∧ Ext w w' := by
  have HS := hide hs
  have HM := hide hm; clear hm
  obtain ⟨_, a, cap, rfl⟩ := hs.shape
  clear hs
  obtain ⟨i0, hi, hz0, hz1, hz2⟩ := info_parts Try.info25
  have hfi := made_fine m
  have hnd := made_nodup m
  have hl4 := made_len4 m
  have hp1 := made_pos m
  have hp2 := made_le m
  have hmem := made_mem m
  have hmade := made_any m _ w HS.out HM.out
  obtain ⟨ps, hps⟩ : ∃ ps, made m = ps := ⟨_, rfl⟩
  rw [hps] at hfi hnd hl4 hp1 hp2 hmem hmade
  have HMADE := hide hmade
  clear hmade hps
  have HFI := hide hfi; have HND := hide hnd; have HMEM := hide hmem
  clear hfi hnd hmem
  have hk := around_bd t 4 (by omega)
  obtain ⟨k, hkk⟩ : ∃ k, around t 4 = k := ⟨_, rfl⟩
  rw [hkk] at hk
  have HK := hide hkk; clear hkk
  go_enter Try.func8, Try.ntmps8
  go_wp2_with fail
  refine HMADE.out.mono ?_
  rintro e w1 ⟨xv, rfl, hx, h1⟩
  have HXX := hide hx
  obtain ⟨hxl, ax, cx, rfl⟩ := hx.shape
  clear hx
  go_wp2_with fail
  refine (around_any t 4 _ ht (by omega)).mono ?_
  rintro e w2 ⟨rfl, rfl⟩
  rw [HK.out]
  go_wp2_with fail
  go_loopw [7, 8] (fun yv iv wr => ∃ i : Nat, i ≤ ps.length ∧ iv = .int .i64 i ∧ wr.ownsRow w1.heap.size 25 2 yv i ((scaled (1 + k) (ps.take i)).flatMap encP) ∧ Ext w1 wr) (fun _ iv _ => ps.length - (intOf iv).toNat)
  case atStart => exact ⟨0, Nat.zero_le _, rfl, World.ownsRow_nil _ _ _ _, Below.refl _ _⟩
  case round =>
    obtain ⟨i, hil, rfl, hown, hE⟩ := hrel
    by_cases hlt : i < ps.length
    · obtain ⟨b, off, rfl, hbb, c0', c1'⟩ := parts_at HXX.out i hlt
      have c0 := (hE.cell (p := ⟨b, off + i * 2, none⟩) hbb).trans c0'
      have c1 := (hE.cell (p := ⟨b, off + i * 2 + 1, none⟩) hbb).trans c1'
      clear c0' c1'
      have hmm := HMEM.out ps[i] (List.getElem_mem _)
      have hw0 : 0 ≤ (1 + k) * ps[i].2 := Int.mul_nonneg (by omega) (by omega)
      have hw1 : (1 + k) * ps[i].2 ≤ 4 * 9 := Int.mul_le_mul (by omega) (by omega) (by omega) (by omega)
      have hsz := hE.size
      have hst : (scaled (1 + k) (ps.take (i+1))).flatMap encP = (scaled (1 + k) (ps.take i)).flatMap encP ++ [.int .i64 ps[i].1, .int .i64 ((1 + k) * ps[i].2)] := by
        rw [take_snoc ps i hlt]
        simp only [scaled, List.map_append, List.flatMap_append]
        simp [encP]
      have HST := hide hst; clear hst
      go_wp2_with fail
      have ag : u7.ownBlock ≠ some b := fun e => by have := (hown.lt b e).1; omega
      have hwr : IntKind.i64.wrap ((1 + k) * ps[i].2) = (1 + k) * ps[i].2 := IntWalk.i64_in _ (by omega)
      have hi0' : (0 : Int) ≤ (i : Int) := Int.natCast_nonneg _
      have hi1 : (i : Int) < (ps.length : Int) := by omega
      go_region_held3 (fun w' => w'.cell? ⟨b, off + i * 2, none⟩ = some (.int .i64 ps[i].1) ∧ w'.cell? ⟨b, off + i * 2 + 1, none⟩ = some (.int .i64 ps[i].2))
        (first
          | go_keep
          | (go_split_ands
             refine ⟨?_, ?_⟩
             · (rw [hgrow.cell_far _ (by simp; omega) (Ne.symm ag)]; assumption)
             · (rw [hgrow.cell_far _ (by simp; omega) (Ne.symm ag)]; assumption)))
        ((refine step_append_lies _ (by rfl) _ _ _ (by rfl) w1.heap.size 25 i0 _ 2 16 Try.underlying22 hi hz0 hz1 hz2 rfl (by omega) u7 i _ (by rfl) ((hown.alloc _).drew)
            ⟨wr.heap.size, 0, none⟩ 1 1 [.int .i64 ps[i].1, .int .i64 ((1 + k) * ps[i].2)] (by rfl) (by rfl) (World.news_of_block (cs := #[.int .i64 ps[i].1, .int .i64 ((1 + k) * ps[i].2)]) (t := 25) (fr := (0, 0)) (heap_alloc_new wr _)) (by simp [Value.oneCell'])
            (by omega) (by unfold maxLen; omega) (by omega) (by simp; omega) (wr.heap.size + 1) (by simp) ?_; intro gg cap' w4 hown1 hgrow hat hlt'))
      clear hwr
      go_wp2
      go_roundw
      case rel => exact ⟨i + 1, by omega, by go_num, by rw [HST.out]; exact hown1, hE.appD hown hgrow⟩
      case measure => simp [intOf]; omega
    · obtain rfl : i = ps.length := by omega
      rw [List.take_length] at hown
      have hsl : (scaled (1 + k) ps).length = ps.length := by simp [scaled]
      have hY : Parts wr u7 (scaled (1 + k) ps) := Sl.of_own encP_len (by rw [hsl]; exact hown) (by rw [hsl]; omega)
      have HY := hide hY
      obtain ⟨_, ay, cy, hu7⟩ := hY.shape
      rw [hsl] at hu7
      subst hu7
      clear hY hown
      have hX := HXX.out.ext hE
      have HX := hide hX; clear hX
      have hks0 : 0 ≤ (1 + k) * sumW ps := Int.mul_nonneg (by omega) (by omega)
      have hks1 : (1 + k) * sumW ps ≤ 4 * 36 := Int.mul_le_mul (by omega) hp2 (by omega) (by omega)
      have hybd : ∀ p ∈ scaled (1 + k) ps, (1 ≤ p.1 ∧ p.1 ≤ 5) ∧ 0 ≤ p.2 ∧ p.2 ≤ 36 := by
        intro p hp
        obtain ⟨q, hq, rfl⟩ := List.mem_map.1 hp
        have hm := HMEM.out q hq
        have h0 : 0 ≤ (1 + k) * q.2 := Int.mul_nonneg (by omega) (by omega)
        have h1 : (1 + k) * q.2 ≤ 4 * 9 := Int.mul_le_mul (by omega) (by omega) (by omega) (by omega)
        exact ⟨hm.1, h0, h1⟩
      have hys : sumW (scaled (1 + k) ps) = (1 + k) * sumW ps := scaled_sum _ _
      have hk1 : sumW ps ≤ (1 + k) * sumW ps := by
        have := Int.mul_le_mul_of_nonneg_right (show (1 : Int) ≤ 1 + k by omega) (show 0 ≤ sumW ps by omega)
        omega
      have hyf : Fine (scaled (1 + k) ps) := ⟨fits_of (by rw [hsl]; omega) (fun p hp => by have := hybd p hp; omega), fun p hp => (hybd p hp).2.1, by rw [hys]; omega, fun p hp => by have := hybd p hp; omega⟩
      have hyc : check (scaled (1 + k) ps) = 0 := check_ok _ (by
        have : firsts (scaled (1 + k) ps) = firsts ps := by simp [firsts, scaled]
        rw [this]; exact HND.out) (fun p hp => by have := hybd p hp; omega) (fun p hp => by have := hybd p hp; omega) (by rw [hys]; omega)
      have hyi : ∀ p ∈ scaled (1 + k) ps, I64 p.1 ∧ I64 p.2 := fun p hp => by have := hybd p hp; unfold I64; omega
      obtain ⟨S, hS⟩ : ∃ S, sumW ps = S := ⟨_, rfl⟩
      rw [hS] at hp1 hp2 hks0 hks1 hk1 hys
      obtain ⟨n1, hn1⟩ : ∃ n : Nat, S = n := ⟨S.toNat, by omega⟩
      obtain ⟨n2, hn2⟩ : ∃ n : Nat, (1 + k) * S = n := ⟨((1 + k) * S).toNat, by omega⟩
      have hn1' : n1 = 1 * (sumW ps).toNat := by rw [hS]; omega
      have hn2' : n2 = 1 * (sumW (scaled (1 + k) ps)).toNat := by rw [hys]; omega
      have hcc : ∀ s : Int, (cnt (scaled (1 + k) ps) 0 n2 s : Int) = (1 + k) * (cnt ps 0 n1 s : Int) := by
        intro s
        rw [hn1', hn2', cnt_exact _ HFI.out.nonneg HFI.out.pos, cnt_exact _ hyf.nonneg hyf.pos, scaled_weighs]
        simp
      have HCC := hide hcc; have HYF := hide hyf; have HYC := hide hyc; have HYI := hide hyi; have HSS := hide hS; have HYS := hide hys; have HN1 := hide hn1; have HN2 := hide hn2
      clear hcc hyf hyc hyi hS hys hn1' hn2' hybd
      have hb1 : (n1 : Int) ≤ 36 := by omega
      have hb2 : (n2 : Int) ≤ 144 := by omega
      have hn12 : (1 + k) * (n1 : Int) = n2 := by rw [← hn1]; exact hn2
      have hq0 : 0 ≤ (1 + k) * (n1 : Int) := by omega
      have hq1 : (1 + k) * (n1 : Int) ≤ 144 := by omega
      have HN12 := hide hn12
      clear hn1 hn2 hn12
      have HSL := hide hsl; clear hsl
      go_wp2_with fail
      refine (sum_any ps _ _ HX.out HFI.out.fits).mono ?_
      rintro e w2 ⟨rfl, h2⟩
      rw [HSS.out]
      have hsn : (S : Int) ≤ 40 := by omega
      go_wp2_with fail
      refine (sum_any (scaled (1 + k) ps) _ _ (HY.out.ext h2) HYF.out.fits).mono ?_
      rintro e w3 ⟨rfl, h3⟩
      rw [HYS.out]
      go_wp2_with fail
      rw [HN1.out]
      refine (counts_any ps _ 0 n1 _ ((HX.out.ext h2).ext h3) HFI.out (by omega) (by omega)).mono ?_
      rintro e w4 ⟨av, rfl, hav, h4⟩
      have HAV := hide hav
      obtain ⟨hal, aa, ca, rfl⟩ := hav.shape
      clear hav
      rw [cnts_len] at hal ⊢
      go_wp2_with fail
      rw [HN12.out]
      refine (counts_any (scaled (1 + k) ps) _ 0 n2 _ (((HY.out.ext h2).ext h3).ext h4) HYF.out (by omega) (by omega)).mono ?_
      rintro e w5 ⟨bv, rfl, hbv, h5⟩
      have HBV := hide hbv
      obtain ⟨hbl, ab, cb, rfl⟩ := hbv.shape
      clear hbv
      rw [cnts_len] at hbl ⊢
      have hx5 := HAV.out.ext h5
      have HAV5 := hide hx5
      clear hx5
      go_wp2_with fail
      go_loopw [12] (fun iv wr => ∃ j : Nat, j ≤ 11 ∧ iv = .int .i64 j ∧ Ext w5 wr) (fun iv _ => 11 - (intOf iv).toNat)
      case atStart => exact ⟨0, Nat.zero_le _, rfl, Below.refl _ _⟩
      case round =>
        obtain ⟨j, hj, rfl, hE5⟩ := hrel
        by_cases hjl : j < 11
        · obtain ⟨b1, o1, rfl, hb1', d1⟩ := ints_at (HAV5.out.ext hE5) j (by rw [cnts_len]; exact hjl)
          obtain ⟨b2, o2, rfl, hb2', d2⟩ := ints_at (HBV.out.ext hE5) j (by rw [cnts_len]; exact hjl)
          rw [cnts_get] at d1 d2
          have hcj := HCC.out (j : Int)
          have hle := cnt_le ps 0 n1 (j : Int)
          obtain ⟨c1, hc1⟩ : ∃ c, cnt ps 0 n1 (j : Int) = c := ⟨_, rfl⟩
          rw [hc1] at d1 hcj hle
          rw [hcj] at d2
          have hm0 : 0 ≤ (1 + k) * (c1 : Int) := Int.mul_nonneg (by omega) (by omega)
          have hm1 : (1 + k) * (c1 : Int) ≤ 4 * 36 := Int.mul_le_mul (by omega) (by omega) (by omega) (by omega)
          clear hcj hc1
          go_wp2
          go_quiet (fail)
          go_wp2
          go_roundw
          case rel => exact ⟨j + 1, by omega, by go_num, Below.drewN' hE5 _⟩
          case measure => simp [intOf]; omega
        · have hge : 11 ≤ j := by omega
          have hE6 := (((hE.trans h2).trans h3).trans h4).trans h5 |>.trans hE5
          go_wp2_with fail
          refine (check_any (scaled (1 + k) ps) _ _ ((((HY.out.ext h2).ext h3).ext h4).ext h5 |>.ext hE5) HYI.out (by have := HSL.out; omega)).mono ?_
          rintro e w6 ⟨rfl, h6⟩
          rw [HYC.out]
          go_wp2_with fail
          refine (lives_any _).mono ?_
          rintro e w7 ⟨rfl, h7⟩
          go_wp2_with fail
          go_ret
          exact ⟨rfl, ((h1.trans hE6).trans h6).trans h7⟩
end Go.Proofs.Ytgeddiondjoedaa
