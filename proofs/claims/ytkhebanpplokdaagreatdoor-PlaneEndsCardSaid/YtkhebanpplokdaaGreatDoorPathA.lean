import Derived.Test.YtkhebanpplokdaaGreatDoorZa
namespace Go.Proofs.YtkhebanpplokdaaGreatDoor
open Go.ChangeShapes Go.WideShapes Go.ChangeAt Go.RowKit Go.Lib
set_option maxRecDepth 100000 in
theorem sign_any (c : UInt8) (w : World) : Calls Tryz.prog 165 #[.int .u8 c.toNat] w fun e w' => e = .returned (.bool (sgn c)) ∧ w = w' := by
 obtain ⟨n, hn⟩ : ∃ n : Nat, c.toNat = n := ⟨_, rfl⟩
 have hb : n < 256 := by rw [← hn]; exact c.toNat_lt
 have hs : sgn c = sgnN n := by unfold sgn; rw [hn]
 rw [hn, hs]
 have hbz : (n : Int) < 256 := by omega
 clear hn hs
 go_enter Tryz.func165, Tryz.ntmps165
 go_wp2
 all_goals
  go_ret
  refine ⟨ret_bool ?_, rfl⟩
  rw [Bool.eq_iff_iff]
  simp [sgnN]
  omega
set_option maxRecDepth 100000 in
theorem wrong_any (n : Nat) (w : World) : Calls Tryz.prog 104 #[.int .i32 n] w fun e w' => e = .returned (.bool (wrongN n)) ∧ w = w' := by
 go_enter Tryz.func104, Tryz.ntmps104
 go_wp2
 all_goals
  go_ret
  refine ⟨ret_bool ?_, rfl⟩
  rw [Bool.eq_iff_iff]
  simp [wrongN, sgnN]
  omega
/-! where a path is one -/
def stepN (st : Bool) (n : Nat) : Option Bool := if n = 47 then (if st then some false else none) else if sgnN n then some true else none
theorem stepP_N (st : Bool) (c : UInt8) : stepP (some st) c = stepN st c.toNat := by
 have : c = 47 ↔ c.toNat = 47 := by rw [← UInt8.toNat_inj]; rfl
 unfold stepP stepN sgn
 simp only [this]
def prevB (p : Nat) : Bool := !(p == 47)
theorem stepN_go (p n : Nat) (h : (97 ≤ n ∧ n ≤ 122) ∨ (48 ≤ n ∧ n ≤ 57) ∨ n = 45 ∨ n = 95 ∨ n = 46 ∨ (n = 47 ∧ p ≠ 47)) : stepN (prevB p) n = some (prevB n) := by
 unfold stepN prevB
 by_cases h47 : n = 47
 ·subst h47
  have hp : p ≠ 47 := by omega
  have : (!(p == 47)) = true := by simpa using hp
  rw [if_pos rfl, this]; rfl
 ·have hs : sgnN n = true := by unfold sgnN; simp; omega
  have : (!(n == 47)) = true := by simpa using h47
  rw [if_neg h47, if_pos hs, this]
theorem stepN_bad (p n : Nat) (h : (n = 47 ∧ p = 47) ∨ n < 45 ∨ (57 < n ∧ n < 95) ∨ n = 96 ∨ 122 < n) : stepN (prevB p) n = none := by
 unfold stepN prevB
 by_cases h47 : n = 47
 ·subst h47
  have hp : p = 47 := by omega
  subst hp
  rfl
 ·have hs : sgnN n = false := by unfold sgnN; simp; omega
  rw [if_neg h47, hs]; rfl
theorem toL (s : ByteArray) : s.toList = s.data.toList := Lib.toList_data s
theorem path_root (s : ByteArray) (h : (s.toList == [47]) = true) : isPath s.data.toList = true := by
 rw [toL, beq_iff_eq] at h; rw [h]; rfl
theorem path_size (s : ByteArray) (h : (s.toList == [47]) = false) (h2 : ¬ (2 ≤ s.size ∧ s.size ≤ 60)) : isPath s.data.toList = false := by
 rw [toL] at h
 have hl := Lib.size_eq s
 unfold isPath
 rw [h]
 by_cases h3 : 2 ≤ s.data.toList.length
 ·have : ¬ s.data.toList.length ≤ 60 := by omega
  simp
  intros; omega
 ·simp
  intros; omega
theorem path_head (s : ByteArray) (h : (s.toList == [47]) = false) (h0 : 0 < s.size) (hc : (s[0]'h0).toNat ≠ 47) : isPath s.data.toList = false := by
 rw [toL] at h
 have hg := data_getElem? s 0 h0
 unfold isPath
 rw [h]
 have : (s.data.toList.head? == some 47) = false := by
  rw [List.head?_eq_getElem?, hg]
  simp
  intro e; apply hc; rw [e]; rfl
 rw [this]; simp
theorem path_body (s : ByteArray) (h : (s.toList == [47]) = false) (h2 : 2 ≤ s.size) (h60 : s.size ≤ 60) (hc : (s[0]'(by omega)).toNat = 47) : isPath s.data.toList = (runP s.data.toList.tail == some true) := by
 rw [toL] at h
 have hl := Lib.size_eq s
 have hg := data_getElem? s 0 (by omega)
 unfold isPath
 rw [h]
 have h3 : (s.data.toList.head? == some 47) = true := by
  rw [List.head?_eq_getElem?, hg]
  simp
  exact UInt8.toNat_inj.1 hc
 have h4 : 2 ≤ s.data.toList.length := by omega
 have h5 : s.data.toList.length ≤ 60 := by omega
 rw [h3]; simp
 intro _; omega
/-- the state ahead of place k (from 1 on) -/
def stAt (s : ByteArray) (k : Nat) : Option Bool := runP (s.data.toList.tail.take (k - 1))
theorem stAt_one (s : ByteArray) : stAt s 1 = some false := by simp [stAt, runP]
theorem stAt_succ (s : ByteArray) (k : Nat) (h1 : 1 ≤ k) (hk : k < s.size) (st : Bool) (h : stAt s k = some st) : stAt s (k + 1) = stepN st (s[k]'hk).toNat := by
 have hl := Lib.size_eq s
 have hg := data_getElem? s k hk
 obtain ⟨j, rfl⟩ : ∃ j, k = j + 1 := ⟨k - 1, by omega⟩
 unfold stAt at *
 have ht : s.data.toList.tail.take (j + 1 + 1 - 1) = s.data.toList.tail.take (j + 1 - 1) ++ [s[j + 1]] := by
  have hjl : j < s.data.toList.tail.length := by rw [List.length_tail]; omega
  have := List.take_succ_eq_append_getElem hjl
  simp only [Nat.add_sub_cancel]
  rw [this]
  congr 2
  have e : s.data.toList.tail[j]? = some s[j + 1] := by rw [List.getElem?_tail]; exact hg
  rw [List.getElem?_eq_getElem hjl] at e
  exact Option.some.inj e
 rw [ht, runP_snoc, h, stepP_N]
def getB (s : ByteArray) (j : Nat) : Nat := (s.data.toList.getD j 0).toNat
theorem getB_eq (s : ByteArray) (j : Nat) (h : j < s.size) : getB s j = (s[j]'h).toNat := by
 unfold getB; rw [List.getD_eq_getElem?_getD, data_getElem? s j h]; rfl
theorem stAt_end (s : ByteArray) : stAt s s.size = runP s.data.toList.tail := by
 have hl := Lib.size_eq s
 unfold stAt
 rw [List.take_of_length_le (by rw [List.length_tail]; omega)]
theorem stAt_bad (s : ByteArray) (k : Nat) (h : stAt s k = none) : runP s.data.toList.tail = none := by
 unfold stAt at h
 rw [← List.take_append_drop (k - 1) s.data.toList.tail]
 exact runP_none _ _ h
set_option maxRecDepth 100000 in
set_option maxHeartbeats 2000000 in
theorem isPath7_any (s : ByteArray) (w : World) (hs : s.size ≤ 9223372036854775807) :
  Calls Tryz.prog 167 #[.string s] w fun e w' => e = .returned (.bool (isPath s.data.toList)) ∧ w = w' := by
 by_cases hr : (s.toList == [47]) = true
 ·have hp := hide (path_root s hr)
  go_enter Tryz.func167, Tryz.ntmps167
  go_wp2
  go_ret
  exact ⟨ret_bool hp.out.symm, rfl⟩
 ·have hr : (s.toList == [47]) = false := by simpa using hr
  by_cases h2 : 2 ≤ s.size ∧ s.size ≤ 60
  ·obtain ⟨h2, h60⟩ := h2
   have h0 : 0 < s.size := by omega
   by_cases hc : (s[0]'h0).toNat = 47
   ·have hp := path_body s hr h2 h60 hc
    by_cases hl : (s[s.size - 1]'(by omega)).toNat = 47
    ·have hbad : isPath s.data.toList = false := by
      rw [hp]
      have h1 := stAt_end s
      have h3 : stAt s s.size ≠ some true := by
       intro e
       obtain ⟨j, hj⟩ : ∃ j, s.size = j + 1 := ⟨s.size - 1, by omega⟩
       cases hst : stAt s j with
       | none =>
        rw [stAt_end, stAt_bad s j hst] at e; cases e
       | some st =>
        have h4 := stAt_succ s j (by omega) (by omega) st hst
        have h5 : (s[j]'(by omega)).toNat = 47 := by simpa [hj] using hl
        rw [h5] at h4
        rw [hj, h4] at e
        unfold stepN at e
        cases st <;> simp at e
      rw [← h1]
      simpa using h3
     have HB := hide hbad
     have hcz : (((s[0]'h0).toNat : Int) != 47) = false := by rw [hc]; rfl
     have hlz : (((s[s.size - 1]'(by omega)).toNat : Int) == 47) = true := by rw [hl]; rfl
     have h2z : (2 : Int) ≤ s.size := by omega
     have h60z : (s.size : Int) ≤ 60 := by omega
     clear hp hbad hc hl
     go_enter Tryz.func167, Tryz.ntmps167
     go_wp2
     go_ret
     exact ⟨ret_bool HB.out.symm, rfl⟩
    ·have HP := hide hp
     have hcz : (((s[0]'h0).toNat : Int) != 47) = false := by rw [hc]; rfl
     have hlz : (((s[s.size - 1]'(by omega)).toNat : Int) == 47) = false := by simp; omega
     have h2z : (2 : Int) ≤ s.size := by omega
     have h60z : (s.size : Int) ≤ 60 := by omega
     have HC := hide hc
     have HL := hide hl
     clear hp hc hl
     go_enter Tryz.func167, Tryz.ntmps167
     go_wp2_with fail
     go_loop [3] (fun i => ∃ k : Nat, 1 ≤ k ∧ k ≤ s.size ∧ i = .int .i64 k ∧ stAt s k = some (prevB (getB s (k - 1)))) (fun i => s.size - (intOf i).toNat)
     case atStart => exact ⟨1, by omega, by omega, rfl, by rw [stAt_one, getB_eq s (1 - 1) (by omega)]; show _ = some (prevB (s[0]'h0).toNat); rw [HC.out]; rfl⟩
     case round =>
      obtain ⟨k, hk1, hk, rfl, hst⟩ := hrel
      by_cases hlt : k < s.size
      ·have hsn := stAt_succ s k hk1 hlt _ hst
       have hbd := stAt_bad s (k + 1)
       have hkm : k - 1 < s.size := by omega
       obtain ⟨n, hn⟩ : ∃ n, (s[k]'hlt).toNat = n := ⟨_, rfl⟩
       obtain ⟨p, hpv⟩ : ∃ p, (s[k - 1]'hkm).toNat = p := ⟨_, rfl⟩
       rw [getB_eq s (k - 1) hkm, hpv, hn] at hsn
       have HSN := hide hsn
       have HBD := hide hbd
       have hnb : n < 256 := by rw [← hn]; exact (s[k]'hlt).toNat_lt
       have hpb : p < 256 := by rw [← hpv]; exact (s[k - 1]'hkm).toNat_lt
       have HN := hide hn
       clear hsn hbd hst hlz hcz
       have hcl : (97 ≤ n ∧ n ≤ 122) ∨ (48 ≤ n ∧ n ≤ 57) ∨ n = 45 ∨ n = 95 ∨ n = 46 ∨ (n = 47 ∧ p = 47) ∨ (n = 47 ∧ p ≠ 47) ∨ n < 45 ∨ (57 < n ∧ n < 95) ∨ n = 96 ∨ 122 < n := by omega
       rcases hcl with ⟨h1, h3⟩ | ⟨h1, h3⟩ | rfl | rfl | rfl | ⟨rfl, rfl⟩ | ⟨rfl, h1⟩ | h1 | ⟨h1, h3⟩ | rfl | h1
       ·have h1z : (97 : Int) ≤ n := by omega
        have h3z : (n : Int) ≤ 122 := by omega
        have e45 : ((n : Int) == 45) = false := by simp; omega
        have e95 : ((n : Int) == 95) = false := by simp; omega
        have e46 : ((n : Int) == 46) = false := by simp; omega
        have e47 : ((n : Int) != 47) = true := by simp; omega
        go_wp2
        go_round
        case rel =>
         refine ⟨k + 1, by omega, hlt, by go_num, ?_⟩
         rw [HSN.out, getB_eq s (k + 1 - 1) (by omega)]
         show stepN (prevB _) _ = some (prevB (s[k]'hlt).toNat)
         rw [HN.out]
         exact stepN_go _ _ (by omega)
        case measure => simp [intOf]; omega
       ·have h1z : (48 : Int) ≤ n := by omega
        have h3z : (n : Int) ≤ 57 := by omega
        have e45 : ((n : Int) == 45) = false := by simp; omega
        have e95 : ((n : Int) == 95) = false := by simp; omega
        have e46 : ((n : Int) == 46) = false := by simp; omega
        have e47 : ((n : Int) != 47) = true := by simp; omega
        go_wp2
        go_round
        case rel =>
         refine ⟨k + 1, by omega, hlt, by go_num, ?_⟩
         rw [HSN.out, getB_eq s (k + 1 - 1) (by omega)]
         show stepN (prevB _) _ = some (prevB (s[k]'hlt).toNat)
         rw [HN.out]
         exact stepN_go _ _ (by omega)
        case measure => simp [intOf]; omega
       ·go_wp2
        go_round
        case rel =>
         refine ⟨k + 1, by omega, hlt, by go_num, ?_⟩
         rw [HSN.out, getB_eq s (k + 1 - 1) (by omega)]
         show stepN (prevB _) _ = some (prevB (s[k]'hlt).toNat)
         rw [HN.out]
         exact stepN_go _ _ (by omega)
        case measure => simp [intOf]; omega
       ·go_wp2
        go_round
        case rel =>
         refine ⟨k + 1, by omega, hlt, by go_num, ?_⟩
         rw [HSN.out, getB_eq s (k + 1 - 1) (by omega)]
         show stepN (prevB _) _ = some (prevB (s[k]'hlt).toNat)
         rw [HN.out]
         exact stepN_go _ _ (by omega)
        case measure => simp [intOf]; omega
       ·go_wp2
        go_round
        case rel =>
         refine ⟨k + 1, by omega, hlt, by go_num, ?_⟩
         rw [HSN.out, getB_eq s (k + 1 - 1) (by omega)]
         show stepN (prevB _) _ = some (prevB (s[k]'hlt).toNat)
         rw [HN.out]
         exact stepN_go _ _ (by omega)
        case measure => simp [intOf]; omega
       ·go_wp2
        go_ret
        refine ⟨ret_bool ?_, rfl⟩
        rw [HP.out, HBD.out (by rw [HSN.out]; exact stepN_bad _ _ (by omega))]
        rfl
       ·have e47 : ((p : Int) == 47) = false := by simp; omega
        go_wp2
        go_round
        case rel =>
         refine ⟨k + 1, by omega, hlt, by go_num, ?_⟩
         rw [HSN.out, getB_eq s (k + 1 - 1) (by omega)]
         show stepN (prevB _) _ = some (prevB (s[k]'hlt).toNat)
         rw [HN.out]
         exact stepN_go _ _ (by omega)
        case measure => simp [intOf]; omega
       ·have h1z : (n : Int) < 45 := by omega
        have e45 : ((n : Int) == 45) = false := by simp; omega
        have e95 : ((n : Int) == 95) = false := by simp; omega
        have e46 : ((n : Int) == 46) = false := by simp; omega
        have e47 : ((n : Int) != 47) = true := by simp; omega
        go_wp2
        go_ret
        refine ⟨ret_bool ?_, rfl⟩
        rw [HP.out, HBD.out (by rw [HSN.out]; exact stepN_bad _ _ (by omega))]
        rfl
       ·have h1z : (57 : Int) < n := by omega
        have h3z : (n : Int) < 95 := by omega
        have e45 : ((n : Int) == 45) = false := by simp; omega
        have e95 : ((n : Int) == 95) = false := by simp; omega
        have e46 : ((n : Int) == 46) = false := by simp; omega
        have e47 : ((n : Int) != 47) = true := by simp; omega
        go_wp2
        all_goals first
         | (exfalso
            have hh := ‹(!decide ((n : Int) ≤ 57)) = false›
            simp at hh
            omega)
         | (exfalso
            have hh := ‹(!decide ((n : Int) ≤ 122)) = false ∨ (!decide ((n : Int) ≤ 57)) = false›
            simp at hh
            omega)
         | (go_ret
            refine ⟨ret_bool ?_, rfl⟩
            rw [HP.out, HBD.out (by rw [HSN.out]; exact stepN_bad _ _ (by omega))]
            rfl)
       ·go_wp2
        go_ret
        refine ⟨ret_bool ?_, rfl⟩
        rw [HP.out, HBD.out (by rw [HSN.out]; exact stepN_bad _ _ (by omega))]
        rfl
       ·have h1z : (122 : Int) < n := by omega
        have e45 : ((n : Int) == 45) = false := by simp; omega
        have e95 : ((n : Int) == 95) = false := by simp; omega
        have e46 : ((n : Int) == 46) = false := by simp; omega
        have e47 : ((n : Int) != 47) = true := by simp; omega
        go_wp2
        all_goals first
         | (exfalso
            have hh := ‹(!decide ((n : Int) ≤ 57)) = false›
            simp at hh
            omega)
         | (exfalso
            have hh := ‹(!decide ((n : Int) ≤ 122)) = false ∨ (!decide ((n : Int) ≤ 57)) = false›
            simp at hh
            omega)
         | (go_ret
            refine ⟨ret_bool ?_, rfl⟩
            rw [HP.out, HBD.out (by rw [HSN.out]; exact stepN_bad _ _ (by omega))]
            rfl)
      ·obtain rfl : k = s.size := by omega
       have hfin : isPath s.data.toList = true := by
        rw [HP.out, ← stAt_end, hst, getB_eq s (s.size - 1) (by omega)]
        have := HL.out
        simp [prevB, this]
       have HF := hide hfin
       clear hfin hst
       go_wp2
       go_ret
       exact ⟨ret_bool HF.out.symm, rfl⟩
   ·have HB := hide (path_head s hr h0 hc)
    have hcz : (((s[0]'h0).toNat : Int) != 47) = true := by simp; omega
    have h2z : (2 : Int) ≤ s.size := by omega
    have h60z : (s.size : Int) ≤ 60 := by omega
    clear hc
    go_enter Tryz.func167, Tryz.ntmps167
    go_wp2
    go_ret
    exact ⟨ret_bool HB.out.symm, rfl⟩
  ·have HB := hide (path_size s hr h2)
   by_cases h3 : s.size < 2
   ·have h3z : (s.size : Int) < 2 := by omega
    clear h2
    go_enter Tryz.func167, Tryz.ntmps167
    go_wp2
    go_ret
    exact ⟨ret_bool HB.out.symm, rfl⟩
   ·have h3z : ¬ (s.size : Int) < 2 := by omega
    have h4z : (60 : Int) < s.size := by omega
    clear h2 h3
    go_enter Tryz.func167, Tryz.ntmps167
    go_wp2
    go_ret
    exact ⟨ret_bool HB.out.symm, rfl⟩
end Go.Proofs.YtkhebanpplokdaaGreatDoor
