/- The references of layer 6: Pick. -/
import Derived.Test.YtgeddiondjoedaaSplitA
namespace Go.Proofs.Ytgeddiondjoedaa
open Go.ChangeShapes Go.WideShapes Go.ChangeAt Go.RowKit
/-- the part at which a rest falls -/
def pickR : List (Int × Int) → Int → Int
  | [], _ => 0
  | p :: l, r => if r < p.2 then p.1 else pickR l (r - p.2)
def pick (ps : List (Int × Int)) (d : Int) : Int := if sumW ps < 1 then 0 else pickR ps (d % sumW ps)
def Small (ps : List (Int × Int)) : Prop := ∀ p ∈ ps, (0 ≤ p.2 ∧ p.2 ≤ 4611686018427387904) ∧ I64 p.1

theorem pickR_drop (ps : List (Int × Int)) (k : Nat) (h : k < ps.length) (r : Int) : pickR (ps.drop k) r = if r < ps[k].2 then ps[k].1 else pickR (ps.drop (k+1)) (r - ps[k].2) := by
  rw [List.drop_eq_getElem_cons h]; rfl

set_option maxHeartbeats 1000000 in
theorem rpick_any (ps : List (Int × Int)) (v : Value) (d : Int) (w : World) (hs : Parts w v ps) (hb : SumFits ps) (hsm : Small ps) (hd : U64 d) :
    Calls Try.prog 18 #[v, .int .u64 d] w fun e w' => e = .returned (.int .i64 (pick ps d)) ∧ w = w' := by
  unfold U64 at hd
  have hS := hb ps.length (Nat.le_refl _)
  rw [List.take_length] at hS
  have HC := hide hs
  obtain ⟨hl', a, cap, rfl⟩ := hs.shape
  clear hs
  by_cases h1 : sumW ps < 1
  · go_enter Try.func18, Try.ntmps18
    go_wp2_with (go_at_call 13; refine (rsum_any ps _ _ HC.out hb).mono ?_; rintro e w' ⟨rfl, rfl⟩)
    go_ret
    exact ⟨ret_int (by rw [pick, if_pos h1]), rfl⟩
  · have h1' : 1 ≤ sumW ps := by omega
    have hm : (sumW ps) % 18446744073709551616 = sumW ps := Int.emod_eq_of_lt (by omega) (by omega)
    have hr0 : 0 ≤ d % sumW ps := Int.emod_nonneg _ (by omega)
    have hr1 : d % sumW ps < sumW ps := Int.emod_lt_of_pos _ (by omega)
    have hfin : pick ps d = pickR ps (d % sumW ps) := by rw [pick, if_neg h1]
    have HF := hide hfin; clear hfin
    go_enter Try.func18, Try.ntmps18
    go_wp2_with (go_at_call 13; refine (rsum_any ps _ _ HC.out hb).mono ?_; rintro e w' ⟨rfl, rfl⟩)
    go_loop [6, 7] (fun r i => ∃ (k : Nat) (x : Int), k ≤ ps.length ∧ i = .int .i64 k ∧ r = .int .i64 x ∧ 0 ≤ x ∧ x ≤ 4611686018427387904 ∧ pickR ps (d % sumW ps) = pickR (ps.drop k) x) (fun _ i => ps.length - (intOf i).toNat)
    case atStart => exact ⟨0, _, Nat.zero_le _, rfl, rfl, hr0, by omega, rfl⟩
    case round =>
      obtain ⟨k, x, hk, rfl, rfl, hx0, hx1, heq⟩ := hrel
      have HE := hide heq; clear heq
      by_cases hlt : k < ps.length
      · obtain ⟨b, off, rfl, hbb, c0, c1⟩ := parts_at HC.out k hlt
        have hp := (hsm ps[k] (List.getElem_mem _)).1
        have hp1 := (hsm ps[k] (List.getElem_mem _)).2
        have hpd := pickR_drop ps k hlt x
        have HP := hide hpd; clear hpd
        by_cases hcmp : x < ps[k].2
        · go_wp2
          go_ret
          exact ⟨ret_int (by rw [HF.out, HE.out, HP.out, if_pos hcmp]), rfl⟩
        · have hcmp' : ps[k].2 ≤ x := by omega
          go_wp2
          go_round
          case rel => exact ⟨k + 1, x - ps[k].2, by omega, by go_num, rfl, by omega, by omega, by rw [HE.out, HP.out, if_neg hcmp]⟩
          case measure => simp [intOf]; omega
      · have hge : ps.length ≤ k := by omega
        go_wp2
        go_ret
        exact ⟨ret_int (by rw [HF.out, HE.out, List.drop_eq_nil_of_le hge]; rfl), rfl⟩
end Go.Proofs.Ytgeddiondjoedaa
