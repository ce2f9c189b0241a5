
/- The references' Loads and Pick. -/
import Derived.Test.YtoncfogihiapiaaBndD
namespace Go.Proofs.Ytoncfogihiapiaa
open Go.ChangeShapes Go.WideShapes Go.ChangeAt Go.RowKit
def amt (x : Int) : Int := if around x 1000000 % 23 = 5 then around x 1000000 else around x 1000000 / 9 % 6
def ldAt (l : List Int) (i : Nat) : Int × Int := ((idsI l).getD i 0, amt (l.getD i 0))
def ldUp (l : List Int) (k : Nat) : List (Int × Int) := (List.range k).map (ldAt l)
def loadsI (l : List Int) : List (Int × Int) := ldUp l (idsI l).length
theorem ldUp_succ (l : List Int) (k : Nat) : ldUp l (k+1) = ldUp l k ++ [ldAt l k] := by simp [ldUp, List.range_succ]
theorem ldUp_len (l : List Int) (k : Nat) : (ldUp l k).length = k := by simp [ldUp]
theorem amt_bd (x : Int) : 0 ≤ amt x ∧ amt x ≤ 1000000 := by
  have := around_bd x 1000000 (by omega)
  unfold amt; split <;> omega
theorem loadsI_bd (l : List Int) : ∀ x ∈ loadsI l, (1 ≤ x.1 ∧ x.1 ≤ 9) ∧ 0 ≤ x.2 ∧ x.2 ≤ 1000000 := by
  intro x hx
  simp only [loadsI, ldUp, List.mem_map, List.mem_range] at hx
  obtain ⟨i, hi, rfl⟩ := hx
  refine ⟨?_, amt_bd _⟩
  have : (idsI l).getD i 0 ∈ idsI l := by rw [List.getD_eq_getElem?_getD, List.getElem?_eq_getElem hi]; exact List.getElem_mem hi
  exact idsI_bd l _ this
theorem loadsI_len (l : List Int) : (loadsI l).length ≤ 12 := by rw [loadsI, ldUp_len]; exact (idsI_len l).2
theorem loadsI_fst (l : List Int) : (loadsI l).map Prod.fst = idsI l := by
  apply List.ext_getElem
  · simp [loadsI, ldUp]
  · intro i h1 h2
    simp [loadsI, ldUp, ldAt, h2]
theorem encP_len' (x : Int × Int) : (encP x).length = 2 := rfl
/-- the reference's pick -/
def sumL (R : List Int) (L : List (Int × Int)) : Int := (R.map (loadI L)).sum
def pickOf (R : List Int) (L : List (Int × Int)) (p : Int) : Option Int := R.find? (fun x => decide (loadI L x < capI (sumL R L) R.length p))
theorem loadI_bd (L : List (Int × Int)) (m : Int) (hm : 0 ≤ m) (h : ∀ x ∈ L, 0 ≤ x.2 ∧ x.2 ≤ m) (x : Int) : 0 ≤ loadI L x ∧ loadI L x ≤ m := by
  unfold loadI loadF
  cases hf : List.find? (fun y => y.1 == x) L with
  | none => simpa using hm
  | some q => simpa using h q (List.mem_of_find?_eq_some hf)
theorem sumL_bd (R : List Int) (L : List (Int × Int)) (m : Int) (hm : 0 ≤ m) (h : ∀ x ∈ L, 0 ≤ x.2 ∧ x.2 ≤ m) : 0 ≤ sumL R L ∧ sumL R L ≤ m * R.length := by
  unfold sumL
  induction R with
  | nil => simp
  | cons x R ih =>
    have := loadI_bd L m hm h x
    simp only [List.map_cons, List.sum_cons, List.length_cons]
    have e : m * ((R.length + 1 : Nat) : Int) = m * (R.length : Int) + m := by rw [Int.natCast_add, Int.mul_add]; simp
    omega
theorem sumL_snoc (R : List Int) (L : List (Int × Int)) (x : Int) : sumL (R ++ [x]) L = sumL R L + loadI L x := by simp [sumL]
theorem find_snoc (l : List Int) (g : Int → Bool) (k : Nat) (h : k < l.length) (h0 : (l.take k).find? g = none) : ((l.take (k+1)).find? g = if g l[k] then some l[k] else none) := by
  rw [take_snoc l k h, List.find?_append, h0]
  cases hg : g l[k] <;> simp [hg]
theorem find_take (l : List Int) (g : Int → Bool) (k : Nat) (c : Int) (h : (l.take k).find? g = some c) : l.find? g = some c := by
  have : (l.take k ++ l.drop k).find? g = some c := by rw [List.find?_append, h]; rfl
  rwa [List.take_append_drop] at this
theorem pickOf_cnt (row S : List Int) (L : List (Int × Int)) (p : Int) : pickOf (cnt row S) L p = row.find? (fun x => S.contains x && decide (loadI L x < capI (sumL (cnt row S) L) (cnt row S).length p)) := by
  unfold pickOf
  conv => lhs; arg 2; unfold cnt
  rw [List.find?_filter]
  congr 1
  funext x
  simp
end Go.Proofs.Ytoncfogihiapiaa
