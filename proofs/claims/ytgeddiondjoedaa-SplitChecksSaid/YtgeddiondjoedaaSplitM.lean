/- Plain laws on picks: shares are exact. -/
import Derived.Test.YtgeddiondjoedaaSplitB
namespace Go.Proofs.Ytgeddiondjoedaa
/-- what a service's parts weigh together -/
def weighs (ps : List (Int × Int)) (s : Int) : Int := ((ps.filter fun p => decide (p.1 = s)).map (·.2)).sum
theorem weighs_cons (p : Int × Int) (l : List (Int × Int)) (s : Int) : weighs (p :: l) s = (if p.1 = s then p.2 else 0) + weighs l s := by
  unfold weighs
  by_cases h : p.1 = s <;> simp [h]
def NonNeg (ps : List (Int × Int)) : Prop := ∀ p ∈ ps, 0 ≤ p.2
theorem sumW_cons (p : Int × Int) (l : List (Int × Int)) : sumW (p :: l) = p.2 + sumW l := by simp [sumW]
theorem sumW_nonneg (ps : List (Int × Int)) (h : NonNeg ps) : 0 ≤ sumW ps := by
  induction ps with
  | nil => simp [sumW]
  | cons p l ih =>
    rw [sumW_cons]
    have h1 := h p (by simp)
    have h2 := ih (fun q hq => h q (by simp [hq]))
    omega
theorem countR (ps : List (Int × Int)) (h : NonNeg ps) (s : Int) : (((List.range (sumW ps).toNat).countP fun r : Nat => decide (pickR ps (r : Int) = s) : Nat) : Int) = weighs ps s := by
  induction ps with
  | nil => simp [sumW, weighs]
  | cons p l ih =>
    have hl : NonNeg l := fun q hq => h q (by simp [hq])
    have hp := h p (by simp)
    have hs := sumW_nonneg l hl
    have e : (sumW (p :: l)).toNat = p.2.toNat + (sumW l).toNat := by rw [sumW_cons]; omega
    rw [e, List.range_add, List.countP_append, weighs_cons, ← ih hl, List.countP_map]
    have h1 : (List.range p.2.toNat).countP (fun r : Nat => decide (pickR (p :: l) (r : Int) = s)) = if p.1 = s then p.2.toNat else 0 := by
      rw [List.countP_congr (q := fun _ => decide (p.1 = s))]
      · by_cases hps : p.1 = s <;> simp [hps]
      · intro r hr
        have : r < p.2.toNat := List.mem_range.1 hr
        have hq : pickR (p :: l) (r : Int) = p.1 := by simp only [pickR]; exact if_pos (by omega)
        simp only [hq]
    have h2 : (List.range (sumW l).toNat).countP ((fun r : Nat => decide (pickR (p :: l) (r : Int) = s)) ∘ fun x => p.2.toNat + x) = (List.range (sumW l).toNat).countP (fun r : Nat => decide (pickR l (r : Int) = s)) := by
      apply List.countP_congr
      intro r _
      have hq : pickR (p :: l) ((p.2.toNat + r : Nat) : Int) = pickR l (r : Int) := by
        simp only [pickR]
        rw [if_neg (by omega)]
        congr 1
        omega
      simp only [Function.comp, hq]
    rw [h1, h2]
    split <;> omega
/-- a window of one period -/
theorem count_window (f : Nat → Bool) (S : Nat) (hf : ∀ i, f (i + S) = f i) (a : Nat) : (List.range' a S).countP f = (List.range S).countP f := by
  induction a with
  | zero => rw [List.range_eq_range']
  | succ a ih =>
    rw [← ih]
    cases S with
    | zero => simp
    | succ S =>
      have e1 : List.range' a (S+1) = a :: List.range' (a+1) S := by simp [List.range'_succ]
      have e2 : List.range' (a+1) (S+1) = List.range' (a+1) S ++ [a+1+S] := by rw [List.range'_concat]; simp
      rw [e1, e2, List.countP_append, List.countP_cons, List.countP_cons, List.countP_nil]
      have : a + 1 + S = a + (S + 1) := by omega
      rw [this, hf a]
      omega
theorem count_windows (f : Nat → Bool) (S : Nat) (hf : ∀ i, f (i + S) = f i) (a k : Nat) : (List.range' a (k * S)).countP f = k * (List.range S).countP f := by
  induction k generalizing a with
  | zero => simp
  | succ k ih =>
    have e : (k + 1) * S = S + k * S := by rw [Nat.add_mul]; omega
    rw [e, ← List.range'_append_1, List.countP_append, count_window f S hf, ih (a + S), Nat.add_mul]
    omega
/-- how many of n numbers from 'from' on stand for s -/
def cnt (ps : List (Int × Int)) (frm n : Nat) (s : Int) : Nat := (List.range n).countP fun i : Nat => decide (pick ps ((frm + i : Nat) : Int) = s)
theorem cnt_succ (ps : List (Int × Int)) (frm n : Nat) (s : Int) : cnt ps frm (n+1) s = cnt ps frm n s + if pick ps ((frm + n : Nat) : Int) = s then 1 else 0 := by
  unfold cnt
  rw [List.range_succ, List.countP_append, List.countP_cons, List.countP_nil]
  by_cases h : pick ps ((frm + n : Nat) : Int) = s <;> simp [h]
theorem cnt_exact (ps : List (Int × Int)) (h : NonNeg ps) (h1 : 1 ≤ sumW ps) (frm k : Nat) (s : Int) : (cnt ps frm (k * (sumW ps).toNat) s : Int) = k * weighs ps s := by
  have hS : ((sumW ps).toNat : Int) = sumW ps := Int.toNat_of_nonneg (by omega)
  have key : ∀ i : Nat, pick ps (i : Int) = pickR ps ((i % (sumW ps).toNat : Nat) : Int) := by
    intro i
    unfold pick
    rw [if_neg (by omega), Int.natCast_emod, hS]
  have e1 : cnt ps frm (k * (sumW ps).toNat) s = (List.range' frm (k * (sumW ps).toNat)).countP (fun i : Nat => decide (pickR ps ((i % (sumW ps).toNat : Nat) : Int) = s)) := by
    rw [cnt, List.range'_eq_map_range, List.countP_map]
    apply List.countP_congr
    intro i _
    simp only [Function.comp, key]
  rw [e1, count_windows _ (sumW ps).toNat (by intro i; simp)]
  rw [Int.natCast_mul, ← countR ps h s]
  congr 2
  apply List.countP_congr
  intro r hr
  rw [Nat.mod_eq_of_lt (List.mem_range.1 hr)]
theorem pickR_mem (ps : List (Int × Int)) (h : NonNeg ps) (r : Int) (h0 : 0 ≤ r) (h1 : r < sumW ps) : ∃ p ∈ ps, pickR ps r = p.1 := by
  induction ps generalizing r with
  | nil => simp [sumW] at h1; omega
  | cons p l ih =>
    simp only [pickR]
    split
    · exact ⟨p, by simp, rfl⟩
    · rw [sumW_cons] at h1
      obtain ⟨q, hq, he⟩ := ih (fun q hq => h q (by simp [hq])) (r - p.2) (by omega) (by omega)
      exact ⟨q, by simp [hq], he⟩
theorem pick_mem (ps : List (Int × Int)) (h : NonNeg ps) (h1 : 1 ≤ sumW ps) (d : Int) : ∃ p ∈ ps, pick ps d = p.1 := by
  unfold pick
  rw [if_neg (by omega)]
  exact pickR_mem ps h _ (Int.emod_nonneg _ (by omega)) (Int.emod_lt_of_pos _ (by omega))
end Go.Proofs.Ytgeddiondjoedaa
