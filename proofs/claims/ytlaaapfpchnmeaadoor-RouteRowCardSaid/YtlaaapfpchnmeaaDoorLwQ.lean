/- The row of rules is nothing, but for their numbers; one that does not fit is nothing: in plain Lean. -/
import Derived.Test.YtlaaapfpchnmeaaDoorLwP
namespace Go.Proofs.YtlaaapfpchnmeaaDoor
open Go.ChangeShapes Go.WideShapes Go.ChangeAt Go.RowKit Go.Lib Go.Shelf
theorem keyAt_eq {R : List RuleD} {i : Nat} {r : RuleD} (h : R[i]? = some r) : keyAt R i = keyR r := by
  unfold keyAt
  rw [List.getD_eq_getElem?_getD, List.getElem?_map, h]
  rfl
theorem fitN_eq {R R' : List RuleD} {i j : Nat} (h : R[i]? = R'[j]?) (p : List UInt8) (H : List HeadD) : fitN R p H i = fitN R' p H j := by
  unfold fitN
  rw [h]
theorem keyAt_congr {R R' : List RuleD} {i j : Nat} (h : R[i]? = R'[j]?) : keyAt R i = keyAt R' j := by
  unfold keyAt
  rw [List.getD_eq_getElem?_getD, List.getD_eq_getElem?_getD, List.getElem?_map, List.getElem?_map, h]
theorem rev_get (R : List RuleD) (i : Nat) (h : i < R.length) : R.reverse[i]? = R[R.length - 1 - i]? := by
  rw [List.getElem?_reverse h]
/-- does one of the first so many rules stand alike with one ahead of it? -/
def alikeB (R : List RuleD) (i k : Nat) : Bool := cmp3 (keyAt R i) (keyAt R k) == 0
theorem cmp3_zero (a b : Key) : cmp3 a b = 0 ↔ a = b := by
  obtain ⟨a1, a2, a3⟩ := a
  obtain ⟨b1, b2, b3⟩ := b
  have h1 := cmp3_neg (a1, a2, a3) (b1, b2, b3)
  unfold cmp3
  simp only [Prod.mk.injEq]
  split
  · constructor
    · intro h; omega
    · intro h; omega
  split
  · constructor
    · intro h; omega
    · intro h; omega
  split
  · constructor
    · intro h; omega
    · intro h; omega
  split
  · constructor
    · intro h; omega
    · intro h; omega
  split
  · constructor
    · intro h; omega
    · intro h; omega
  split
  · constructor
    · intro h; omega
    · intro h; omega
  · constructor
    · intro _; omega
    · intro _; rfl
theorem ahead_strict {R : List RuleD} {i j : Nat} (h : aheadB R i j = true) (hne : cmp3 (keyAt R i) (keyAt R j) ≠ 0) : cmp3 (keyAt R i) (keyAt R j) < 0 := by
  unfold aheadB at h
  simp only [Bool.or_eq_true, Bool.and_eq_true, Bool.not_eq_true', decide_eq_true_eq, decide_eq_false_iff_not] at h
  rcases h with h | ⟨h, -⟩
  · exact h
  · have h1 := cmp3_neg (keyAt R i) (keyAt R j)
    have h2 := cmp3_neg (keyAt R j) (keyAt R i)
    have h3 := cmp3_zero (keyAt R i) (keyAt R j)
    have n2 : ¬ ((keyAt R i).1 < (keyAt R j).1 ∨ ((keyAt R j).1 = (keyAt R i).1 ∧ ((keyAt R i).2.1 < (keyAt R j).2.1 ∨ ((keyAt R j).2.1 = (keyAt R i).2.1 ∧ (keyAt R i).2.2 < (keyAt R j).2.2)))) := fun h' => h (h2.2 h')
    rw [h1]
    have n3 : ¬ (keyAt R i = keyAt R j) := fun h' => hne (h3.2 h')
    have n4 : ¬ ((keyAt R i).1 = (keyAt R j).1 ∧ (keyAt R i).2.1 = (keyAt R j).2.1 ∧ (keyAt R i).2.2 = (keyAt R j).2.2) := fun ⟨a, b, c⟩ => n3 (Prod.ext a (Prod.ext b c))
    omega
theorem cmp3_sym (a b : Key) : cmp3 a b = 0 → cmp3 b a = 0 := fun h => (cmp3_zero b a).2 ((cmp3_zero a b).1 h).symm
/-- turned round -/
theorem back_some (R : List RuleD) (p : List UInt8) (H : List HeadD) : (found R.reverse p H).isSome = (found R p H).isSome := by
  have key : found R.reverse p H = none ↔ found R p H = none := by
    rw [found_none, found_none]
    constructor
    · intro h j hj
      have := h (R.length - 1 - j) (by simp; omega)
      rw [← this]
      refine (fitN_eq ?_ p H).symm
      rw [rev_get R _ (by omega)]
      congr 1
      omega
    · intro h j hj
      have hj' : j < R.length := by simpa using hj
      rw [← h (R.length - 1 - j) (by omega)]
      exact fitN_eq (rev_get R j hj') p H
  cases h1 : found R.reverse p H with
  | none => rw [key.1 h1]
  | some x =>
    cases h2 : found R p H with
    | none => rw [key.2 h2] at h1; cases h1
    | some y => rfl
theorem back_at {R : List RuleD} {p : List UInt8} {H : List HeadD} {a : Nat} (h : found R p H = some (a : Int)) (hal : ∀ i k, k < i → i < R.length → alikeB R i k = false) : found R.reverse p H = some ((R.length - 1 - a : Nat) : Int) := by
  rcases found_spec R p H with ⟨i, h1, h2, h3, h4⟩ | ⟨h1, _⟩
  · rw [h] at h1
    obtain rfl : a = i := by have := Option.some.inj h1; omega
    have g : ∀ q, q < R.length → R.reverse[q]? = R[R.length - 1 - q]? := fun q hq => rev_get R q hq
    have ga : R.reverse[R.length - 1 - a]? = R[a]? := by
      rw [g _ (by omega)]
      congr 1
      omega
    refine found_eq (by simp; omega) (by rw [fitN_eq ga]; exact h3) ?_
    intro j hj hf hne
    have hj' : j < R.length := by simpa using hj
    have hk := h4 (R.length - 1 - j) (by omega) (by rw [← fitN_eq (g j hj')]; exact hf) (by omega)
    have hz : cmp3 (keyAt R a) (keyAt R (R.length - 1 - j)) ≠ 0 := fun hz => by
      rcases Nat.lt_or_gt_of_ne (show a ≠ R.length - 1 - j by omega) with hlt | hlt
      · have := hal _ _ hlt (by omega)
        unfold alikeB at this
        rw [cmp3_sym _ _ hz] at this
        cases this
      · have := hal _ _ hlt (by omega)
        unfold alikeB at this
        rw [hz] at this
        cases this
    have hs := ahead_strict hk hz
    rw [← keyAt_congr (g j hj'), ← keyAt_congr ga] at hs
    refine ahead_asymm _ _ _ ?_
    unfold aheadB
    rw [decide_eq_true hs]
    rfl
  · rw [h] at h1; cases h1
/-- where the j-th one stood, before the k-th one was left out -/
def shI (k j : Nat) : Nat := if j < k then j else j + 1
theorem shI_ne (k j : Nat) : shI k j ≠ k := by unfold shI; split <;> omega
theorem shI_lt (k i j : Nat) : shI k i < shI k j ↔ i < j := by unfold shI; split <;> split <;> omega
theorem shI_get (R : List RuleD) (k j : Nat) (hk : k < R.length) (_hj : j < R.length - 1) : (R.take k ++ R.drop (k + 1))[j]? = R[shI k j]? := by
  unfold shI
  split
  · rw [List.getElem?_append_left (by simp; omega), List.getElem?_take_of_lt (by omega)]
  · rw [List.getElem?_append_right (by simp; omega), List.getElem?_drop]
    congr 1
    simp
    omega
theorem shI_onto (k i : Nat) (h : i ≠ k) : shI k (if k < i then i - 1 else i) = i := by unfold shI; split <;> split <;> omega
theorem fewer_len (R : List RuleD) (k : Nat) (hk : k < R.length) : (R.take k ++ R.drop (k + 1)).length = R.length - 1 := by simp; omega
theorem fewer_none {R : List RuleD} {p : List UInt8} {H : List HeadD} (k : Nat) (hk : k < R.length) (h : found R p H = none) : found (R.take k ++ R.drop (k + 1)) p H = none := by
  rw [found_none] at h ⊢
  intro j hj
  rw [fewer_len R k hk] at hj
  rw [fitN_eq (shI_get R k j hk hj)]
  exact h _ (by unfold shI; split <;> omega)
theorem fewer_at {R : List RuleD} {p : List UInt8} {H : List HeadD} {a : Nat} (k : Nat) (hk : k < R.length) (h : found R p H = some (a : Int)) (hne : a ≠ k) : found (R.take k ++ R.drop (k + 1)) p H = some ((if k < a then a - 1 else a : Nat) : Int) := by
  rcases found_spec R p H with ⟨i, h1, h2, h3, h4⟩ | ⟨h1, _⟩
  · rw [h] at h1
    obtain rfl : a = i := by have := Option.some.inj h1; omega
    have ho := shI_onto k a hne
    have hal : (if k < a then a - 1 else a) < R.length - 1 := by split <;> omega
    refine found_eq (by rw [fewer_len R k hk]; exact hal) (by rw [fitN_eq (shI_get R k _ hk hal), ho]; exact h3) ?_
    intro j hj hf hja
    rw [fewer_len R k hk] at hj
    have hg := shI_get R k j hk hj
    have hga := shI_get R k _ hk hal
    have hka := h4 (shI k j) (by unfold shI; split <;> omega) (by rw [← fitN_eq hg]; exact hf) (fun e => by
      rw [← ho] at e
      have l1 := shI_lt k j (if k < a then a - 1 else a)
      have l2 := shI_lt k (if k < a then a - 1 else a) j
      omega)
    have hrev := ahead_asymm _ _ _ hka
    rw [← hrev]
    unfold aheadB
    rw [keyAt_congr hg, keyAt_congr hga, ho]
    congr 2
    have l1 := shI_lt k j (if k < a then a - 1 else a)
    rw [ho] at l1
    rw [decide_eq_decide]
    exact l1.symm
  · rw [h] at h1; cases h1
end Go.Proofs.YtlaaapfpchnmeaaDoor
