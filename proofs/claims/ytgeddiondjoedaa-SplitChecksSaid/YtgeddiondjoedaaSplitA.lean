/- The references of layer 6. -/
import Derived.Test.YtgeddiondjoedaaRef01
namespace Go.Proofs.Ytgeddiondjoedaa
open Go.ChangeShapes Go.WideShapes Go.ChangeAt Go.RowKit
def sumW (l : List (Int × Int)) : Int := (l.map (·.2)).sum
theorem sumW_snoc (ps : List (Int × Int)) (k : Nat) (h : k < ps.length) : sumW (ps.take (k+1)) = sumW (ps.take k) + ps[k].2 := by
  unfold sumW; rw [List.take_succ_eq_append_getElem h, List.map_append, List.sum_append]; simp

/-- all partial sums fit -/
def SumFits (ps : List (Int × Int)) : Prop := ∀ k, k ≤ ps.length → -4611686018427387904 ≤ sumW (ps.take k) ∧ sumW (ps.take k) ≤ 4611686018427387904

set_option maxHeartbeats 400000 in
theorem rsum_any (ps : List (Int × Int)) (v : Value) (w : World) (hs : Parts w v ps) (hb : SumFits ps) :
    Calls Try.prog 13 #[v] w fun e w' => e = .returned (.int .i64 (sumW ps)) ∧ w = w' := by
  obtain ⟨hl', a, cap, rfl⟩ := hs.shape
  have HC := hide hs; clear hs
  go_enter Try.func13, Try.ntmps13
  go_wp2
  go_loop [3, 4] (fun n i => ∃ k : Nat, k ≤ ps.length ∧ i = .int .i64 k ∧ n = .int .i64 (sumW (ps.take k))) (fun _ i => ps.length - (intOf i).toNat)
  case atStart => exact ⟨0, Nat.zero_le _, rfl, rfl⟩
  case round =>
    obtain ⟨k, hk, rfl, rfl⟩ := hrel
    by_cases hlt : k < ps.length
    · obtain ⟨b, off, rfl, hbb, c0, c1⟩ := parts_at HC.out k hlt
      have hsum := sumW_snoc ps k hlt
      have b1 := hb k hk
      have b2 := hb (k+1) hlt
      rw [hsum] at b2
      have HS := hide hsum
      clear hsum
      go_wp2
      go_round
      case rel => exact ⟨k + 1, by omega, by go_num, by rw [HS.out]⟩
      case measure => simp [intOf]; omega
    · have hge : ps.length ≤ k := by omega
      go_wp2
      go_ret
      exact ⟨ret_int (by rw [List.take_of_length_le (by omega)]), rfl⟩

def madeN (m : List Int) : Int := if 0 < m.length then around (m.getD 0 0) 1000 else 0
theorem madeN_bd (m : List Int) : 0 ≤ madeN m ∧ madeN m < 1000 := by
  unfold madeN; split
  · exact around_bd _ _ (by omega)
  · omega
def madeAt (m : List Int) (i : Nat) : Int × Int :=
  let w := if i + 1 < m.length then around (m.getD (i+1) 0) 10 else 0
  (1 + (madeN m / 4 + i) % 5, if (i : Int) = madeN m % 4 then 1 + w % 9 else w)
def made (m : List Int) : List (Int × Int) := (List.range (madeN m % 4 + 1).toNat).map (madeAt m)

theorem Try.info25 : (Try.prog.info? 25).map (fun i => (i.zero, i.size, i.bytes)) = some (some (.agg #[.int .i64 0, .int .i64 0]), 2, 16) := by kernel_rfl
theorem encP_len (x : Int × Int) : (encP x).length = 2 := rfl

theorem made_len (m : List Int) : (made m).length = (madeN m % 4 + 1).toNat := by simp [made]
theorem made_get (m : List Int) (k : Nat) (h : k < (made m).length) : (made m)[k] = madeAt m k := by simp [made]

set_option maxHeartbeats 1000000 in
theorem made_any (m : List Int) (v : Value) (w : World) (hs : Ints w v m) (hm : ∀ x ∈ m, I64 x) :
    Calls Try.prog 10 #[v] w fun e w' => ∃ v', e = .returned v' ∧ Parts w' v' (made m) ∧ Ext w w' := by
  obtain ⟨hl', a, cap, rfl⟩ := hs.shape
  obtain ⟨i0, hi, hz0, hz1, hz2⟩ := info_parts Try.info25
  have hn := madeN_bd m
  have HC := hide hs; clear hs
  have HM := hide hm; clear hm
  obtain ⟨n, HN⟩ : ∃ n, Hid (madeN m = n) := ⟨_, hide rfl⟩
  rw [HN.out] at hn
  have hq : (made m).length = (n % 4 + 1).toNat := by rw [made_len, HN.out]
  have HQ := hide hq; clear hq
  have hql : (made m).length ≤ 4 := by rw [HQ.out]; omega
  by_cases h0 : 0 < m.length
  · obtain ⟨b, off, rfl, hbb, c0⟩ := ints_at HC.out 0 h0
    simp only [Nat.add_zero] at c0
    have hx0 := HM.out m[0] (List.getElem_mem _)
    have hn' : around m[0] 1000 = n := by rw [← HN.out, madeN, if_pos h0]; simp [h0]
    have HN' := hide hn'; clear hn'
    go_enter Try.func10, Try.ntmps10
    go_wp2_with (go_at_call 14; refine (around_any _ _ _ hx0 (by omega)).mono ?_; rintro e w' ⟨rfl, rfl⟩; rw [HN'.out])
    go_loopw [4, 5] (fun o i wr => ∃ k : Nat, k ≤ (made m).length ∧ i = .int .i64 k ∧ wr.ownsRow w.heap.size 25 2 o k (((made m).take k).flatMap encP) ∧ Ext w wr) (fun _ i _ => (made m).length - (intOf i).toNat)
    case atStart => exact ⟨0, Nat.zero_le _, rfl, World.ownsRow_nil _ _ _ _, Below.refl _ _⟩
    case round =>
      obtain ⟨k, hk, rfl, hown, hext⟩ := hrel
      by_cases hlt : k < (made m).length
      · have hlt' : (k : Int) ≤ n % 4 := by have := HQ.out; omega
        have hsz := hext.size
        by_cases hk1 : k + 1 < m.length
        · obtain ⟨_, _, heq, hbb, c1⟩ := ints_at (HC.out.ext hext) (k+1) hk1
          cases heq
          have hx1 := HM.out m[k+1] (List.getElem_mem _)
          have ar := around_bd m[k+1] 10 (by omega)
          have c1' : wr.cell? ⟨b, off + (k + 1), none⟩ = some (.int .i64 m[k+1]) := c1
          clear c1
          by_cases hkn : (k : Int) = n % 4
          · have hE : encP ((made m)[k]) = [.int .i64 (1 + (n / 4 + k) % 5), .int .i64 (1 + around m[k+1] 10 % 9)] := by
              rw [made_get]; simp only [madeAt, encP, HN.out, if_pos hkn, if_pos hk1]; (try simp [hk1])
            have HE := hide hE; clear hE
            have hkb : ((k : Int) == n % 4) = true := by simp [hkn]
            clear hkn
            go_wp2_with (first | (go_at_call 14; refine (around_any _ _ _ hx1 (by omega)).mono ?_; rintro e w' ⟨rfl, rfl⟩) | (at_builtin; refine wpList_append_own _ rfl _ _ 22 rfl w.heap.size 25 i0 (.agg #[.int .i64 0, .int .i64 0]) 2 16 Try.underlying22 hi hz0 hz1 hz2 rfl (by decide) _ _ _ rfl (hown.alloc _) ⟨wr.heap.size, 0, none⟩ 1 1 _ rfl ?c0 (cells_new _ _ _) ?c2 ?c3 ?c4 ?c5 ?_; (case c0 => rfl); (case c2 => simp [Value.oneCell']); (case c3 => (unfold maxLen; omega)); (case c4 => omega); (case c5 => (simp; omega)); intro v' w1 hown' hgrow _))
            go_wp2
            go_roundw
            case rel => exact ⟨k + 1, hlt, by go_num, by rw [flat_snoc _ _ _ hlt, HE.out]; exact hown', hext.app hown hgrow⟩
            case measure => simp [intOf]; omega
          · have hE : encP ((made m)[k]) = [.int .i64 (1 + (n / 4 + k) % 5), .int .i64 (around m[k+1] 10)] := by
              rw [made_get]; simp only [madeAt, encP, HN.out, if_neg hkn, if_pos hk1]; (try simp [hk1])
            have HE := hide hE; clear hE
            have hkb : ((k : Int) == n % 4) = false := by simp [hkn]
            clear hkn
            go_wp2_with (first | (go_at_call 14; refine (around_any _ _ _ hx1 (by omega)).mono ?_; rintro e w' ⟨rfl, rfl⟩) | (at_builtin; refine wpList_append_own _ rfl _ _ 22 rfl w.heap.size 25 i0 (.agg #[.int .i64 0, .int .i64 0]) 2 16 Try.underlying22 hi hz0 hz1 hz2 rfl (by decide) _ _ _ rfl (hown.alloc _) ⟨wr.heap.size, 0, none⟩ 1 1 _ rfl ?c0 (cells_new _ _ _) ?c2 ?c3 ?c4 ?c5 ?_; (case c0 => rfl); (case c2 => simp [Value.oneCell']); (case c3 => (unfold maxLen; omega)); (case c4 => omega); (case c5 => (simp; omega)); intro v' w1 hown' hgrow _))
            go_wp2
            go_roundw
            case rel => exact ⟨k + 1, hlt, by go_num, by rw [flat_snoc _ _ _ hlt, HE.out]; exact hown', hext.app hown hgrow⟩
            case measure => simp [intOf]; omega
        · have hk2 : m.length ≤ k + 1 := by omega
          by_cases hkn : (k : Int) = n % 4
          · have hE : encP ((made m)[k]) = [.int .i64 (1 + (n / 4 + k) % 5), .int .i64 (1)] := by
              rw [made_get]; simp only [madeAt, encP, HN.out, if_pos hkn, if_neg hk1]; (try simp)
            have HE := hide hE; clear hE
            have hkb : ((k : Int) == n % 4) = true := by simp [hkn]
            clear hkn
            go_wp2_with (at_builtin; refine wpList_append_own _ rfl _ _ 22 rfl w.heap.size 25 i0 (.agg #[.int .i64 0, .int .i64 0]) 2 16 Try.underlying22 hi hz0 hz1 hz2 rfl (by decide) _ _ _ rfl (hown.alloc _) ⟨wr.heap.size, 0, none⟩ 1 1 _ rfl ?c0 (cells_new _ _ _) ?c2 ?c3 ?c4 ?c5 ?_; (case c0 => rfl); (case c2 => simp [Value.oneCell']); (case c3 => (unfold maxLen; omega)); (case c4 => omega); (case c5 => (simp; omega)); intro v' w1 hown' hgrow _)
            go_wp2
            go_roundw
            case rel => exact ⟨k + 1, hlt, by go_num, by rw [flat_snoc _ _ _ hlt, HE.out]; exact hown', hext.app hown hgrow⟩
            case measure => simp [intOf]; omega
          · have hE : encP ((made m)[k]) = [.int .i64 (1 + (n / 4 + k) % 5), .int .i64 (0)] := by
              rw [made_get]; simp only [madeAt, encP, HN.out, if_neg hkn, if_neg hk1]; (try simp)
            have HE := hide hE; clear hE
            have hkb : ((k : Int) == n % 4) = false := by simp [hkn]
            clear hkn
            go_wp2_with (at_builtin; refine wpList_append_own _ rfl _ _ 22 rfl w.heap.size 25 i0 (.agg #[.int .i64 0, .int .i64 0]) 2 16 Try.underlying22 hi hz0 hz1 hz2 rfl (by decide) _ _ _ rfl (hown.alloc _) ⟨wr.heap.size, 0, none⟩ 1 1 _ rfl ?c0 (cells_new _ _ _) ?c2 ?c3 ?c4 ?c5 ?_; (case c0 => rfl); (case c2 => simp [Value.oneCell']); (case c3 => (unfold maxLen; omega)); (case c4 => omega); (case c5 => (simp; omega)); intro v' w1 hown' hgrow _)
            go_wp2
            go_roundw
            case rel => exact ⟨k + 1, hlt, by go_num, by rw [flat_snoc _ _ _ hlt, HE.out]; exact hown', hext.app hown hgrow⟩
            case measure => simp [intOf]; omega
      · have hge : (n % 4) < (k : Int) := by have := HQ.out; omega
        go_wp2
        go_ret
        exact ⟨_, rfl, by
          have hkk : k = (made m).length := by omega
          subst hkk
          exact Sl.of_own encP_len (by rw [List.take_length] at hown; exact hown) (by omega), hext⟩
  · have hn0 : madeN m = 0 := by rw [madeN, if_neg h0]
    have hq1 : (made m).length = 1 := by rw [made_len, hn0]; rfl
    have hE : ∀ h : 0 < (made m).length, encP ((made m)[0]'h) = [.int .i64 1, .int .i64 1] := by
      intro h
      rw [made_get]; simp only [madeAt, encP, hn0]; simp; omega
    have HE := hide hE
    have HQ1 := hide hq1
    have hd0 : decide (0 < m.length) = false := decide_eq_false (by omega)
    have h0b : (m.length : Int) ≤ 0 := by omega
    clear hE hn0 hn h0 HN HQ hql
    clear n hq1
    go_enter Try.func10, Try.ntmps10
    go_wp2
    go_loopw [4, 5] (fun o i wr => ∃ k : Nat, k ≤ 1 ∧ i = .int .i64 k ∧ wr.ownsRow w.heap.size 25 2 o k (((made m).take k).flatMap encP) ∧ Ext w wr) (fun _ i _ => 1 - (intOf i).toNat)
    case atStart => exact ⟨0, Nat.zero_le _, rfl, World.ownsRow_nil _ _ _ _, Below.refl _ _⟩
    case round =>
      obtain ⟨k, hk, rfl, hown, hext⟩ := hrel
      by_cases hlt : k < 1
      · have hkb : ((k : Int) == 0) = true := by simp; omega
        have hsz := hext.size
        go_wp2_with (at_builtin; refine wpList_append_own _ rfl _ _ 22 rfl w.heap.size 25 i0 (.agg #[.int .i64 0, .int .i64 0]) 2 16 Try.underlying22 hi hz0 hz1 hz2 rfl (by decide) _ _ _ rfl (hown.alloc _) ⟨wr.heap.size, 0, none⟩ 1 1 _ rfl ?c0 (cells_new _ _ _) ?c2 ?c3 ?c4 ?c5 ?_; (case c0 => rfl); (case c2 => simp [Value.oneCell']); (case c3 => (unfold maxLen; omega)); (case c4 => omega); (case c5 => (simp; omega)); intro v' w1 hown' hgrow _)
        go_wp2
        go_roundw
        case rel =>
          obtain rfl : k = 0 := by omega
          exact ⟨1, by omega, by go_num, by rw [show (1 : Nat) = 0 + 1 from rfl, flat_snoc _ _ 0 (by have := HQ1.out; omega), HE.out (by have := HQ1.out; omega)]; exact hown', hext.app hown hgrow⟩
        case measure => simp [intOf]; omega
      · have hge : (1 : Int) ≤ (k : Int) := by omega
        go_wp2
        go_ret
        exact ⟨_, rfl, by
          obtain rfl : k = 1 := by omega
          have := HQ1.out
          exact Sl.of_own encP_len (by rw [List.take_of_length_le (by omega)] at hown; rw [this]; exact hown) (by omega), hext⟩
end Go.Proofs.Ytgeddiondjoedaa
