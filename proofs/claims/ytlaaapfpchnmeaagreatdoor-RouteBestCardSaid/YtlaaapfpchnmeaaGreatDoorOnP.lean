/- The row of Table.On, in plain Lean. -/
import Derived.Test.YtlaaapfpchnmeaaGreatDoorOnA
namespace Go.Proofs.YtlaaapfpchnmeaaGreatDoor
open Go.RowKit Go.Lib
theorem onL_filter (R : List RuleD) (p : List UInt8) (k : Nat) : ((List.range k).map fun i : Nat => (i : Int)).filter (fun x => onN R p x.toNat) = onL R p k := by
  unfold onL
  rw [List.filter_map]
  rfl
theorem onL_sorted (R : List RuleD) (p : List UInt8) (k : Nat) : (onL R p k).Pairwise (fun x y => x ≤ y) := by
  unfold onL
  rw [List.pairwise_map]
  exact ((List.pairwise_lt_range (n := k)).filter _).imp fun h => by omega
theorem srt_on (R : List RuleD) (p : List UInt8) (I : List Int) (hI : I.Perm ((List.range R.length).map fun i : Nat => (i : Int))) : srtI (I.filter fun x => onN R p x.toNat) = onL R p R.length := by
  have h1 := hI.filter fun x => onN R p x.toNat
  rw [onL_filter] at h1
  exact ((srtI_perm _).trans h1).eq_of_pairwise (fun a b _ _ h1 h2 => Int.le_antisymm h1 h2) (srtI_sorted _) (onL_sorted R p _)
theorem onN_core {Rs R : List RuleD} (h : Rs.map RuleD.core = R.map RuleD.core) (p : List UInt8) (i : Nat) : onN Rs p i = onN R p i := by
  have e : ∀ L : List RuleD, onN L p i = onN (L.map RuleD.core) p i := fun L => by
    unfold onN
    rw [List.getElem?_map]
    cases L[i]? <;> rfl
  rw [e Rs, e R, h]
theorem onL_core {Rs R : List RuleD} (h : Rs.map RuleD.core = R.map RuleD.core) (p : List UInt8) (k : Nat) : onL Rs p k = onL R p k := by
  unfold onL
  rw [show onN Rs p = onN R p from funext fun i => onN_core h p i]
theorem onL_has (R : List RuleD) (p : List UInt8) (k i : Nat) (h : i < k) : (onL R p k).contains (i : Int) = onN R p i := by
  rw [Bool.eq_iff_iff, List.contains_iff_mem]
  unfold onL
  rw [List.mem_map]
  constructor
  · rintro ⟨j, hj, e⟩
    have e' : j = i := by omega
    subst e'
    exact (List.mem_filter.1 hj).2
  · intro hi
    exact ⟨i, List.mem_filter.2 ⟨List.mem_range.2 h, hi⟩, rfl⟩
theorem on_of_fit {R : List RuleD} {p : List UInt8} {H : List HeadD} {i : Nat} (h : fitN R p H i = true) : onN R p i = true := by
  unfold fitN at h
  unfold onN
  cases hr : R[i]? with
  | none => rw [hr] at h; cases h
  | some r =>
    rw [hr] at h
    simp only at h ⊢
    unfold fitR fitsB at h
    rw [Bool.and_eq_true] at h
    exact h.1
/-- what is found is not behind one that fits -/
theorem best_row {R : List RuleD} {i k : Nat} (h : aheadB R k i = true) : ¬ cmp3 (keyAt R i) (keyAt R k) < 0 ∧ (cmp3 (keyAt R i) (keyAt R k) = 0 → ¬ i < k) := by
  have h1 := ahead_asymm R k i h
  unfold aheadB at h1 h
  simp only [Bool.or_eq_true, Bool.and_eq_true, Bool.not_eq_true', decide_eq_true_eq, decide_eq_false_iff_not, Bool.or_eq_false_iff, Bool.and_eq_false_iff] at *
  refine ⟨h1.1, fun h0 hik => ?_⟩
  have a1 := cmp3_neg (keyAt R i) (keyAt R k)
  have a2 := cmp3_neg (keyAt R k) (keyAt R i)
  rcases h with h | h
  · have := a2.1 h
    unfold cmp3 at h0
    repeat' split at h0
    all_goals omega
  · omega
end Go.Proofs.YtlaaapfpchnmeaaGreatDoor
