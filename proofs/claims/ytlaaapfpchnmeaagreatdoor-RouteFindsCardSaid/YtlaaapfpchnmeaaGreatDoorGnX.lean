
/- ref05.Text: some text. -/
import Derived.Test.YtlaaapfpchnmeaaGreatDoorZg
namespace Go.Proofs.YtlaaapfpchnmeaaGreatDoor
open Go.ChangeShapes Go.WideShapes Go.ChangeAt Go.RowKit Go.Lib Go.Shelf
set_option maxRecDepth 100000 in
set_option maxHeartbeats 4000000 in
theorem text_any (n : Int) (w : World) (hn : I64 n) :
    Calls Tryz.prog 8 #[.int .i64 n] w fun e w' => ∃ s, e = .returned (.string s) ∧ s.size ≤ 100 ∧ Ext w w' := by
  have har := around_any n 1000000 w hn (by omega)
  have hbd := around_bd n 1000000 (by omega)
  obtain ⟨k, hk⟩ : ∃ k : Nat, around n 1000000 = k := Int.eq_ofNat_of_zero_le hbd.1
  rw [hk] at har hbd
  have hkl : k < 1000000 := by omega
  have HAR := hide har
  have hm5 : (k : Int).tmod 5 = ((k % 5 : Nat) : Int) := by rw [Int.tmod_eq_emod_of_nonneg (by omega)]; omega
  have hm31 : (k : Int).tmod 31 = ((k % 31 : Nat) : Int) := by rw [Int.tmod_eq_emod_of_nonneg (by omega)]; omega
  have hq5 : (k : Int).tdiv 5 = ((k / 5 : Nat) : Int) := by rw [Int.tdiv_eq_ediv_of_nonneg (by omega)]; omega
  have hq31 : (k : Int).tdiv 31 = ((k / 31 : Nat) : Int) := by rw [Int.tdiv_eq_ediv_of_nonneg (by omega)]; omega
  clear har hbd hk
  go_enter Tryz.func8, Tryz.ntmps8
  go_wp2_with fail
  refine HAR.out.mono ?_
  rintro e w1 ⟨rfl, rfl⟩
  by_cases h4 : k % 5 = 4
  · have h4' : ((k % 5 : Nat) : Int) = 4 := by omega
    have hd : ((k / 5 : Nat) : Int).tmod 12 = ((k / 5 % 12 : Nat) : Int) := by rw [Int.tmod_eq_emod_of_nonneg (by omega)]; omega
    obtain ⟨d, hdd⟩ : ∃ d, k / 5 % 12 = d := ⟨_, rfl⟩
    have hd12 : d < 12 := by omega
    obtain ⟨q, hqq⟩ : ∃ d, k / 5 = d := ⟨_, rfl⟩
    have hq : q < 1000000 := by omega
    rw [hdd] at hd
    rw [hqq] at hd hq5
    clear hdd hqq h4 hm31 hq31
    rcases (by omega : d = 0 ∨ d = 1 ∨ d = 2 ∨ d = 3 ∨ d = 4 ∨ d = 5 ∨ d = 6 ∨ d = 7 ∨ d = 8 ∨ d = 9 ∨ d = 10 ∨ d = 11) with rfl | rfl | rfl | rfl | rfl | rfl | rfl | rfl | rfl | rfl | rfl | rfl
    all_goals
      go_wp2
      go_ret
      exact ⟨_, rfl, by decide, (Below.refl _ w).alloc (Nat.le_refl _) _⟩
  · have h4' : ¬ ((k % 5 : Nat) : Int) = 4 := by omega
    by_cases h7 : k % 31 = 7
    · have h7' : ((k % 31 : Nat) : Int) = 7 := by omega
      have hd : ((k / 31 : Nat) : Int).tmod 5 = ((k / 31 % 5 : Nat) : Int) := by rw [Int.tmod_eq_emod_of_nonneg (by omega)]; omega
      obtain ⟨d, hdd⟩ : ∃ d, k / 31 % 5 = d := ⟨_, rfl⟩
      have hd12 : d < 5 := by omega
      obtain ⟨q, hqq⟩ : ∃ d, k / 31 = d := ⟨_, rfl⟩
      have hq : q < 1000000 := by omega
      rw [hdd] at hd
      rw [hqq] at hd hq31
      clear hdd hqq h7 h4 hq5
      go_wp2_with fail
      go_loopw [4] (fun v4 wr => ∃ s : ByteArray, v4 = .string s ∧ s.size ≤ 70 ∧ Ext w wr) (fun v _ => 70 - (match v with | .string s => s.size | _ => 0))
      case atStart => exact ⟨_, rfl, by decide, Below.refl _ _⟩
      case round =>
        obtain ⟨s, rfl, hs, hext⟩ := hrel
        by_cases hlt : s.size < 58 + d
        · have hltz : (s.size : Int) < 58 + (d : Int) := by omega
          go_wp2
          go_roundw
          case rel => exact ⟨_, rfl, by rw [ByteArray.size_append]; show s.size + 1 ≤ _; omega, hext⟩
          case measure => simp [ByteArray.size_append]; show 70 - (s.size + 1) < _; omega
        · have hltz : ¬ (s.size : Int) < 58 + (d : Int) := by omega
          go_wp2
          go_ret
          exact ⟨_, rfl, by omega, hext⟩
    · have h7' : ¬ ((k % 31 : Nat) : Int) = 7 := by omega
      have hc := fun X => pathof_any ((k / 5 : Nat) : Int) X (by unfold I64; omega)
      obtain ⟨q, hqq⟩ : ∃ d, k / 5 = d := ⟨_, rfl⟩
      have hq : q < 1000000 := by omega
      rw [hqq] at hq5 hc
      have HC := hide hc
      clear hqq h7 h4 hq31 hc
      go_wp2_with fail
      refine (HC.out _).mono ?_
      rintro e w5 ⟨s, rfl, hs, E5⟩
      have hsz : s.size ≤ 100 := by
        have := (pathN_path (arN q 1000000)).2
        rw [← hs] at this
        have e : (bl s).length = s.size := by simp [bl]
        omega
      have HSZ := hide hsz
      clear hs hsz
      go_wp2
      go_ret
      exact ⟨_, rfl, HSZ.out, E5⟩
end Go.Proofs.YtlaaapfpchnmeaaGreatDoor
