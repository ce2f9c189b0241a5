/- SplitPicks: the walk. -/
import Derived.Test.YtgeddiondjoedaaSplitF
namespace Go.Proofs.Ytgeddiondjoedaa
open Go.ChangeShapes Go.WideShapes Go.ChangeAt Go.RowKit
theorem madeAt_bd (m : List Int) (i : Nat) (hi : (i : Int) ≤ madeN m % 4) : (1 ≤ (madeAt m i).1 ∧ (madeAt m i).1 ≤ 5) ∧ 0 ≤ (madeAt m i).2 ∧ (madeAt m i).2 ≤ 9 := by
  have hn := madeN_bd m
  have hw : 0 ≤ (if i + 1 < m.length then around (m.getD (i+1) 0) 10 else 0) ∧ (if i + 1 < m.length then around (m.getD (i+1) 0) 10 else 0) ≤ 9 := by
    split
    · have := around_bd (m.getD (i+1) 0) 10 (by omega); omega
    · omega
  simp only [madeAt]
  generalize (if i + 1 < m.length then around (m.getD (i+1) 0) 10 else 0) = w at hw
  refine ⟨by omega, ?_⟩
  split <;> omega
theorem made_mem (m : List Int) (p : Int × Int) (h : p ∈ made m) : (1 ≤ p.1 ∧ p.1 ≤ 5) ∧ 0 ≤ p.2 ∧ p.2 ≤ 9 := by
  simp only [made, List.mem_map, List.mem_range] at h
  obtain ⟨i, hi, rfl⟩ := h
  exact madeAt_bd m i (by omega)
theorem made_len4 (m : List Int) : 1 ≤ (made m).length ∧ (made m).length ≤ 4 := by
  rw [made_len]; have := madeN_bd m; omega
theorem fits_of {ps : List (Int × Int)} (hl : ps.length ≤ 1000000) (h : ∀ p ∈ ps, 0 ≤ p.2 ∧ p.2 ≤ 100) : SumFits ps :=
  wellTo_fits ps (fun i hi _ => h _ (List.getElem_mem hi)) hl
theorem made_fits (m : List Int) : SumFits (made m) := fits_of (by have := made_len4 m; omega) (fun p hp => by have := made_mem m p hp; omega)
theorem made_small (m : List Int) : Small (made m) := fun p hp => by
  have := made_mem m p hp; unfold I64; omega

set_option maxHeartbeats 1000000 in
theorem picks_walk (m : List Int) (v : Value) (d : Int) (w : World) (hs : Ints w v m) (hm : ∀ x ∈ m, I64 x) (hd : U64 d) :
    Calls Try.prog 4 #[v, .int .u64 d] w fun e w' => e = .returned (.bool true) ∧ Ext w w' := by
  have HS := hide hs
  have HM := hide hm; clear hm
  obtain ⟨_, a, cap, rfl⟩ := hs.shape
  clear hs
  go_enter Try.func4, Try.ntmps4
  go_wp2_with fail
  refine (made_any m _ _ HS.out HM.out).mono ?_
  rintro e w1 ⟨x, rfl, hx, h1⟩
  have HX := hide hx
  obtain ⟨_, ax, cx, rfl⟩ := hx.shape
  clear hx
  go_wp2_with fail
  refine (pick_any (made m) _ d _ HX.out (made_fits m) hd).mono ?_
  rintro e w2 ⟨rfl, h2⟩
  go_wp2_with fail
  refine (rpick_any (made m) _ d _ (HX.out.ext h2) (made_fits m) (made_small m) hd).mono ?_
  rintro e w3 ⟨rfl, rfl⟩
  go_wp2_with fail
  refine (lives_any _).mono ?_
  rintro e w4 ⟨rfl, h4⟩
  go_wp2_with fail
  go_ret
  exact ⟨rfl, (h1.trans h2).trans h4⟩
end Go.Proofs.Ytgeddiondjoedaa
