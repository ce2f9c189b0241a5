
/- Rules that are right; the last resort, in plain Lean. -/
import Derived.Test.YtlaaapfpchnmeaaGreatDoorGnK
import Derived.Test.YtlaaapfpchnmeaaGreatDoorZg
namespace Go.Proofs.YtlaaapfpchnmeaaGreatDoor
open Go.ChangeShapes Go.WideShapes Go.ChangeAt Go.RowKit Go.Lib Go.Shelf
/-- rules that are right, whatever made them -/
def Right (r : RuleD) : Prop := RuleFit r ∧ (∀ rates, 0 ≤ rates → rchk r rates = 0) ∧ isPath (bl r.path) = true
theorem right_core {r q : RuleD} (h : r.core = q) (hq : Right q) : Right r := by subst h; exact hq
theorem genR_Right (L : List Int) : Right (genR L) := ⟨genR_fit L, fun rates h => genR_right L rates h, by rw [genR_path, bl_pathA']; exact (pathN_path _).1⟩
theorem rules_right {Rs : List RuleD} {L : List Int} {k : Nat} (h : Rs.map RuleD.core = genRs L k) : ∀ r ∈ Rs, Right r := fun r hr => by
  have h1 : r.core ∈ genRs L k := by rw [← h]; exact List.mem_map.2 ⟨r, hr, rfl⟩
  obtain ⟨i, -, h2⟩ := List.mem_map.1 h1
  exact right_core h2.symm (genR_Right _)
theorem rules_len {Rs : List RuleD} {L : List Int} (h : Rs.map RuleD.core = genRs L (rulesN L)) : Rs.length ≤ 5 := by
  have := congrArg List.length h
  rw [genRs_len] at this
  have e : Rs.length = rulesN L := by simpa using this
  rw [e]
  unfold rulesN
  omega
theorem plain_Right : Right (plainR ⟨#[47]⟩ false) := by
  refine ⟨plain_fit _ _ (by decide), fun rates h => ?_, by decide⟩
  have h0 : outB 0 rates 0 = false := outB_in (by omega)
  have e : rchk (plainR ⟨#[47]⟩ false) rates = if outB 0 rates 0 = true then 15 else 0 := rfl
  rw [e, h0]
  rfl
theorem nerr_right {R : List RuleD} (h : ∀ r ∈ R, Right r) (hl : R.length ≤ 20) (rates : Int) (hr : 0 ≤ rates) : nerr R rates = 0 := nerr_all R rates (by omega) fun r hx => (h r hx).2.1 rates hr
/-- what says more than a rule for every path that asks nothing -/
def moreB (r : RuleD) : Bool := !(bl r.path == [47]) || r.ex || decide (0 < r.H.length)
theorem count_pos {p : List UInt8} (h : isPath p = true) (hne : p ≠ [47]) : 0 < Lib.countByte p 47 := by
  unfold isPath at h
  rw [Bool.or_eq_true] at h
  rcases h with h | h
  · exact absurd (by simpa using h) hne
  · simp only [Bool.and_eq_true, beq_iff_eq] at h
    obtain ⟨⟨_, h⟩, _⟩ := h
    cases p with
    | nil => cases h
    | cons c p =>
      simp at h
      subst h
      unfold Lib.countByte
      simp
theorem more_ahead {r : RuleD} (h : moreB r = true) (hp : isPath (bl r.path) = true) : cmp3 (keyR r) (keyR (plainR ⟨#[47]⟩ false)) < 0 := by
  rw [cmp3_neg]
  have e : keyR (plainR ⟨#[47]⟩ false) = (0, 0, 0) := rfl
  rw [e]
  unfold keyR rk3 rk0 rk1
  simp only
  unfold moreB at h
  have h0 : (0 : Int) ≤ Lib.countByte (bl r.path) 47 := by omega
  cases hex : r.ex with
  | true => left; simp
  | false =>
    right
    refine ⟨by simp, ?_⟩
    by_cases hq : bl r.path = [47]
    · right
      rw [hex, hq] at h
      simp at h
      rw [if_pos hq]
      exact ⟨rfl, by omega⟩
    · left
      rw [if_neg hq]
      have := count_pos hp hq
      omega
theorem plain_fits {p : List UInt8} (hp : isPath p = true) (H : List HeadD) : fitR (plainR ⟨#[47]⟩ false) p H = true := by
  have e : fitR (plainR ⟨#[47]⟩ false) p H = (isPath p && true && true) := by
    unfold fitR fitsB onB beginsB
    rfl
  rw [e, hp]
  rfl
theorem find_lt {R : List RuleD} {p : List UInt8} {H : List HeadD} {k : Nat} (h : found R p H = some (k : Int)) : k < R.length := by
  rcases found_spec R p H with ⟨i, h1, h2, -⟩ | ⟨h1, -⟩
  · rw [h] at h1
    have := Option.some.inj h1
    omega
  · rw [h] at h1; cases h1
/-- the last resort -/
theorem all_found {M : List RuleD} {rp : RuleD} (hM : ∀ r ∈ M, moreB r = true ∧ isPath (bl r.path) = true) (hrp : rp.core = plainR ⟨#[47]⟩ false) {p : List UInt8} (hp : isPath p = true) (H : List HeadD) :
    ∃ i : Nat, found (M ++ [rp]) p H = some (i : Int) ∧ (M.any (fun r => fitR r p H) = true → i ≠ M.length) ∧ (M.any (fun r => fitR r p H) = false → i = M.length) := by
  have hl : fitN (M ++ [rp]) p H M.length = true := by
    unfold fitN
    rw [List.getElem?_append_right (Nat.le_refl _)]
    simp only [Nat.sub_self, List.getElem?_cons_zero]
    rw [← fitR_core, hrp]
    exact plain_fits hp H
  rcases found_spec (M ++ [rp]) p H with ⟨i, h1, h2, h3, h4⟩ | ⟨h1, h2⟩
  · refine ⟨i, h1, fun hf he => ?_, fun hf => ?_⟩
    · subst he
      obtain ⟨r, hr, hfr⟩ := List.any_eq_true.1 hf
      obtain ⟨j, hj, hjr⟩ := List.getElem_of_mem hr
      have hjf : fitN (M ++ [rp]) p H j = true := by
        unfold fitN
        rw [List.getElem?_append_left hj, List.getElem?_eq_getElem hj, hjr]
        exact hfr
      have ha := h4 j (by simp; omega) hjf (by omega)
      have hk : cmp3 (keyAt (M ++ [rp]) j) (keyAt (M ++ [rp]) M.length) < 0 := by
        have e1 : keyAt (M ++ [rp]) j = keyR r := by
          unfold keyAt
          rw [List.getD_eq_getElem?_getD, List.getElem?_map, List.getElem?_append_left hj, List.getElem?_eq_getElem hj, hjr]
          rfl
        have e2 : keyAt (M ++ [rp]) M.length = keyR (plainR ⟨#[47]⟩ false) := by
          unfold keyAt
          rw [List.getD_eq_getElem?_getD, List.getElem?_map, List.getElem?_append_right (Nat.le_refl _)]
          simp only [Nat.sub_self, List.getElem?_cons_zero, Option.map_some, Option.getD_some]
          rw [← keyR_core, hrp]
        rw [e1, e2]
        exact more_ahead (hM r hr).1 (hM r hr).2
      have hb : aheadB (M ++ [rp]) j M.length = true := by
        unfold aheadB
        rw [decide_eq_true hk]
        rfl
      rw [ahead_asymm _ _ _ hb] at ha
      cases ha
    · by_cases hi : i < M.length
      · have : M.any (fun r => fitR r p H) = true := by
          refine List.any_eq_true.2 ⟨M[i], List.getElem_mem hi, ?_⟩
          unfold fitN at h3
          rw [List.getElem?_append_left hi, List.getElem?_eq_getElem hi] at h3
          exact h3
        rw [this] at hf
        cases hf
      · simp at h2
        omega
  · rw [h2 M.length (by simp)] at hl
    cases hl
end Go.Proofs.YtlaaapfpchnmeaaGreatDoor
