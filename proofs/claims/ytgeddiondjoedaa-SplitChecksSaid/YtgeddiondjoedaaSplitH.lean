/- counts. -/
import Derived.Test.YtgeddiondjoedaaSplitG
import Derived.Test.YtgeddiondjoedaaSplitM
namespace Go.Proofs.Ytgeddiondjoedaa
open Go.ChangeShapes Go.WideShapes Go.ChangeAt Go.RowKit
/-- parts whose numbers all stand for a service from 1 to 10 -/
structure Fine (ps : List (Int × Int)) : Prop where
  fits : SumFits ps
  nonneg : NonNeg ps
  pos : 1 ≤ sumW ps
  svc : ∀ p ∈ ps, 1 ≤ p.1 ∧ p.1 ≤ 10
def cnts (ps : List (Int × Int)) (frm n : Nat) : List Int := (List.range 11).map fun s : Nat => (cnt ps frm n (s : Int) : Int)
theorem cnt_le (ps : List (Int × Int)) (frm n : Nat) (s : Int) : cnt ps frm n s ≤ n := by
  unfold cnt
  have := List.countP_le_length (p := fun i : Nat => decide (pick ps ((frm + i : Nat) : Int) = s)) (l := List.range n)
  simpa using this

set_option maxHeartbeats 2000000 in
theorem counts_any (ps : List (Int × Int)) (v : Value) (frm n : Nat) (w : World) (hs : Parts w v ps) (hf : Fine ps) (hn : n ≤ 1000) (hfr : frm + n ≤ 18446744073709551615) :
    Calls Try.prog 19 #[v, .int .u64 frm, .int .i64 n] w fun e w' => ∃ v', e = .returned v' ∧ Ints w' v' (cnts ps frm n) ∧ Ext w w' := by
  have HS := hide hs
  obtain ⟨_, a, cap, rfl⟩ := hs.shape
  clear hs
  have hfr' : (frm : Int) + n ≤ 18446744073709551615 := by omega
  have hn' : (n : Int) ≤ 1000 := by omega
  have HF := hide hf; clear hf
  have hmk : ∀ u : World, (Instr.makeSlice 23 (.int .i64 11) (.int .i64 11)).run Try.prog u = .ok (.slice (some ⟨u.heap.size, 0, none⟩) 11 11) (u.alloc (.cells (Array.replicate 11 (.int .i64 0)) 3)) := fun _ => by kernel_rfl
  go_enter Try.func19, Try.ntmps19
  go_wp2
  go_loopw [8] (fun i wr => ∃ k : Nat, k ≤ n ∧ i = .int .i64 k ∧ Arr wr w.heap.size 3 11 (fun s => .int .i64 (cnt ps frm k (s : Int))) ∧ Ext w wr) (fun i _ => n - (intOf i).toNat)
  case atStart =>
    refine ⟨0, Nat.zero_le _, rfl, ?_, (Below.refl _ w).alloc (Nat.le_refl _) _⟩
    refine Arr.new w _ 3 11 _ (by simp) ?_
    intro i hi
    simp [cnt, hi]
  case round =>
    obtain ⟨k, hk, rfl, hA, hE⟩ := hrel
    have hsz := hE.size
    by_cases hlt : k < n
    · obtain ⟨p, hp, hpk⟩ := pick_mem ps HF.out.nonneg HF.out.pos ((frm : Int) + k)
      have hsv := HF.out.svc p hp
      rw [← hpk] at hsv
      have HPK := hide hpk; clear hpk hp
      obtain ⟨x, hx⟩ : ∃ x, pick ps ((frm : Int) + k) = x := ⟨_, rfl⟩
      rw [hx] at hsv
      have HX := hide hx; clear hx
      go_wp2_with fail
      refine (pick_any ps _ ((frm : Int) + k) _ (HS.out.ext hE) HF.out.fits (by unfold U64; omega)).mono ?_
      rintro e w2 ⟨rfl, h2⟩
      rw [HX.out]
      have hA2 := hA.ext h2
      have hE2 := hE.trans h2
      have hxt : (x.toNat : Int) = x := Int.toNat_of_nonneg (by omega)
      obtain ⟨c, hc0⟩ : ∃ c, cnt ps frm k x = c := ⟨_, rfl⟩
      have hAc : w2.cell? ⟨w.heap.size, x.toNat, none⟩ = some (.int .i64 (c : Int)) := by
        have := hA2.cell x.toNat (by omega)
        rwa [hxt, hc0] at this
      have hAf := hA2.frozen x.toNat
      have hcl : c ≤ k := by rw [← hc0]; exact cnt_le ps frm k x
      have HC0 := hide hc0
      have HXT := hide hxt
      clear hc0 hxt
      have hx0 : 1 ≤ x := hsv.1
      have hx1 : x ≤ 10 := hsv.2
      go_wp2
      go_roundw
      case rel =>
        refine ⟨k + 1, by omega, by go_num, (hA2.set x.toNat _).congr ?_, hE2.setCell (p := ⟨w.heap.size, x.toNat, none⟩) (Nat.le_refl _) _⟩
        intro i hi
        have hc := cnt_succ ps frm k (i : Int)
        have hxx := HX.out
        rw [show ((frm + k : Nat) : Int) = (frm : Int) + k by omega, hxx] at hc
        show (if i = x.toNat then _ else _) = _
        by_cases hix : i = x.toNat
        · have hxt := HXT.out
          rw [if_pos hix, hc, if_pos (by omega), hix, hxt, HC0.out]; rfl
        · rw [if_neg hix, hc, if_neg (by omega)]; rfl
      case measure => simp [intOf]; omega
    · obtain rfl : k = n := by omega
      go_wp2
      go_ret
      exact ⟨_, rfl, hA.ints 11 (by omega) (by omega), hE⟩
theorem cnts_len (ps : List (Int × Int)) (frm n : Nat) : (cnts ps frm n).length = 11 := by simp [cnts]
theorem cnts_get (ps : List (Int × Int)) (frm n : Nat) (s : Nat) (h : s < (cnts ps frm n).length) : (cnts ps frm n)[s] = (cnt ps frm n (s : Int) : Int) := by simp [cnts]
end Go.Proofs.Ytgeddiondjoedaa
