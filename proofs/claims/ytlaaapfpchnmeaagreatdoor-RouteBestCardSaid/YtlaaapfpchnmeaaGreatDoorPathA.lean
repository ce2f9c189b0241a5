
/- The references' sign and IsPath; the closure of match.Path. -/
import Derived.Test.YtlaaapfpchnmeaaGreatDoorZa
namespace Go.Proofs.YtlaaapfpchnmeaaGreatDoor
open Go.ChangeShapes Go.WideShapes Go.ChangeAt Go.RowKit Go.Lib
set_option maxRecDepth 100000 in
theorem sign_any (c : UInt8) (w : World) : Calls Tryz.prog 68 #[.int .u8 c.toNat] w fun e w' => e = .returned (.bool (sgn c)) ∧ w = w' := by
  obtain ⟨n, hn⟩ : ∃ n : Nat, c.toNat = n := ⟨_, rfl⟩
  have hb : n < 256 := by rw [← hn]; exact c.toNat_lt
  have hs : sgn c = sgnN n := by unfold sgn; rw [hn]
  rw [hn, hs]
  have hbz : (n : Int) < 256 := by omega
  clear hn hs
  go_enter Tryz.func68, Tryz.ntmps68
  go_wp2
  all_goals
    go_ret
    refine ⟨ret_bool ?_, rfl⟩
    rw [Bool.eq_iff_iff]
    simp [sgnN]
    omega
set_option maxRecDepth 100000 in
theorem wrong_any (n : Nat) (w : World) : Calls Tryz.prog 54 #[.int .i32 n] w fun e w' => e = .returned (.bool (wrongN n)) ∧ w = w' := by
  go_enter Tryz.func54, Tryz.ntmps54
  go_wp2
  all_goals
    go_ret
    refine ⟨ret_bool ?_, rfl⟩
    rw [Bool.eq_iff_iff]
    simp [wrongN, sgnN]
    omega
/-! where a path is one -/
def stepN (st : Bool) (n : Nat) : Option Bool := if n = 47 then (if st then some false else none) else if sgnN n then some true else none
theorem stepP_N (st : Bool) (c : UInt8) : stepP (some st) c = stepN st c.toNat := by
  have : c = 47 ↔ c.toNat = 47 := by rw [← UInt8.toNat_inj]; rfl
  unfold stepP stepN sgn
  simp only [this]
def prevB (p : Nat) : Bool := !(p == 47)
theorem stepN_go (p n : Nat) (h : (97 ≤ n ∧ n ≤ 122) ∨ (48 ≤ n ∧ n ≤ 57) ∨ n = 45 ∨ n = 95 ∨ n = 46 ∨ (n = 47 ∧ p ≠ 47)) : stepN (prevB p) n = some (prevB n) := by
  unfold stepN prevB
  by_cases h47 : n = 47
  · subst h47
    have hp : p ≠ 47 := by omega
    have : (!(p == 47)) = true := by simpa using hp
    rw [if_pos rfl, this]; rfl
  · have hs : sgnN n = true := by unfold sgnN; simp; omega
    have : (!(n == 47)) = true := by simpa using h47
    rw [if_neg h47, if_pos hs, this]
theorem stepN_bad (p n : Nat) (h : (n = 47 ∧ p = 47) ∨ n < 45 ∨ (57 < n ∧ n < 95) ∨ n = 96 ∨ 122 < n) : stepN (prevB p) n = none := by
  unfold stepN prevB
  by_cases h47 : n = 47
  · subst h47
    have hp : p = 47 := by omega
    subst hp
    rfl
  · have hs : sgnN n = false := by unfold sgnN; simp; omega
    rw [if_neg h47, hs]; rfl
theorem toL (s : ByteArray) : s.toList = s.data.toList := Lib.toList_data s
theorem path_root (s : ByteArray) (h : (s.toList == [47]) = true) : isPath s.data.toList = true := by
  rw [toL, beq_iff_eq] at h; rw [h]; rfl
theorem path_size (s : ByteArray) (h : (s.toList == [47]) = false) (h2 : ¬ (2 ≤ s.size ∧ s.size ≤ 60)) : isPath s.data.toList = false := by
  rw [toL] at h
  have hl := Lib.size_eq s
  unfold isPath
  rw [h]
  by_cases h3 : 2 ≤ s.data.toList.length
  · have : ¬ s.data.toList.length ≤ 60 := by omega
    simp
    intros; omega
  · simp
    intros; omega
theorem path_head (s : ByteArray) (h : (s.toList == [47]) = false) (h0 : 0 < s.size) (hc : (s[0]'h0).toNat ≠ 47) : isPath s.data.toList = false := by
  rw [toL] at h
  have hg := data_getElem? s 0 h0
  unfold isPath
  rw [h]
  have : (s.data.toList.head? == some 47) = false := by
    rw [List.head?_eq_getElem?, hg]
    simp
    intro e; apply hc; rw [e]; rfl
  rw [this]; simp
theorem path_body (s : ByteArray) (h : (s.toList == [47]) = false) (h2 : 2 ≤ s.size) (h60 : s.size ≤ 60) (hc : (s[0]'(by omega)).toNat = 47) : isPath s.data.toList = (runP s.data.toList.tail == some true) := by
  rw [toL] at h
  have hl := Lib.size_eq s
  have hg := data_getElem? s 0 (by omega)
  unfold isPath
  rw [h]
  have h3 : (s.data.toList.head? == some 47) = true := by
    rw [List.head?_eq_getElem?, hg]
    simp
    exact UInt8.toNat_inj.1 hc
  have h4 : 2 ≤ s.data.toList.length := by omega
  have h5 : s.data.toList.length ≤ 60 := by omega
  rw [h3]; simp
  intro _; omega
/-- the state ahead of place k (from 1 on) -/
def stAt (s : ByteArray) (k : Nat) : Option Bool := runP (s.data.toList.tail.take (k - 1))
theorem stAt_one (s : ByteArray) : stAt s 1 = some false := by simp [stAt, runP]
theorem stAt_succ (s : ByteArray) (k : Nat) (h1 : 1 ≤ k) (hk : k < s.size) (st : Bool) (h : stAt s k = some st) : stAt s (k + 1) = stepN st (s[k]'hk).toNat := by
  have hl := Lib.size_eq s
  have hg := data_getElem? s k hk
  obtain ⟨j, rfl⟩ : ∃ j, k = j + 1 := ⟨k - 1, by omega⟩
  unfold stAt at *
  have ht : s.data.toList.tail.take (j + 1 + 1 - 1) = s.data.toList.tail.take (j + 1 - 1) ++ [s[j + 1]] := by
    have hjl : j < s.data.toList.tail.length := by rw [List.length_tail]; omega
    have := List.take_succ_eq_append_getElem hjl
    simp only [Nat.add_sub_cancel]
    rw [this]
    congr 2
    have e : s.data.toList.tail[j]? = some s[j + 1] := by rw [List.getElem?_tail]; exact hg
    rw [List.getElem?_eq_getElem hjl] at e
    exact Option.some.inj e
  rw [ht, runP_snoc, h, stepP_N]
def getB (s : ByteArray) (j : Nat) : Nat := (s.data.toList.getD j 0).toNat
theorem getB_eq (s : ByteArray) (j : Nat) (h : j < s.size) : getB s j = (s[j]'h).toNat := by
  unfold getB; rw [List.getD_eq_getElem?_getD, data_getElem? s j h]; rfl
theorem stAt_end (s : ByteArray) : stAt s s.size = runP s.data.toList.tail := by
  have hl := Lib.size_eq s
  unfold stAt
  rw [List.take_of_length_le (by rw [List.length_tail]; omega)]
theorem stAt_bad (s : ByteArray) (k : Nat) (h : stAt s k = none) : runP s.data.toList.tail = none := by
  unfold stAt at h
  rw [← List.take_append_drop (k - 1) s.data.toList.tail]
  exact runP_none _ _ h
end Go.Proofs.YtlaaapfpchnmeaaGreatDoor
