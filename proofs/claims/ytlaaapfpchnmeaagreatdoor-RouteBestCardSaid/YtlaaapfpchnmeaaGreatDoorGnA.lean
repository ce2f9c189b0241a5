
/- ref05.PathOf: a path made of a number. -/
import Derived.Test.YtlaaapfpchnmeaaGreatDoorRtA
import Derived.Test.YtlaaapfpchnmeaaGreatDoorZs
namespace Go.Proofs.YtlaaapfpchnmeaaGreatDoor
open Go.ChangeShapes Go.WideShapes Go.ChangeAt Go.RowKit Go.Lib Go.Shelf
def nameP (d : Nat) : List UInt8 := if d = 0 then [97] else if d = 1 then [98] else if d = 2 then [99] else [97, 98]
def pathGo : Nat → Nat → List UInt8 → List UInt8
  | 0, _, s => s
  | i + 1, k, s => pathGo i (k / 4) (s ++ [47] ++ nameP (k / 4 % 4))
def arN (n m : Int) : Nat := (around n m).toNat
def pathN (k : Nat) : List UInt8 := if k % 4 = 0 then [47] else pathGo (k % 4) k []
theorem bl_app (a b : ByteArray) : bl (a ++ b) = bl a ++ bl b := by
  unfold bl
  rw [ByteArray.data_append]
  simp
theorem pathGo_ne (i k : Nat) (s : List UInt8) (h : s ≠ []) : pathGo i k s ≠ [] := by
  induction i generalizing k s with
  | zero => exact h
  | succ i ih => exact ih _ _ (by simp)
theorem toL_nil (s : ByteArray) (b : Bool) (h : (bl s).isEmpty = b) : (s.toList == []) = b ∧ s.toList.isEmpty = b := by
  rw [toL]
  refine ⟨?_, h⟩
  rw [← h]
  show (bl s == []) = (bl s).isEmpty
  cases bl s <;> rfl
set_option maxRecDepth 100000 in
set_option maxHeartbeats 4000000 in
theorem pathof_any (n : Int) (w : World) (hn : I64 n) :
    Calls Tryz.prog 7 #[.int .i64 n] w fun e w' => ∃ s, e = .returned (.string s) ∧ bl s = pathN (arN n 1000000) ∧ Ext w w' := by
  have har := around_any n 1000000 w hn (by omega)
  have hbd := around_bd n 1000000 (by omega)
  obtain ⟨k, hk⟩ : ∃ k : Nat, around n 1000000 = k := Int.eq_ofNat_of_zero_le hbd.1
  have hka : arN n 1000000 = k := by unfold arN; rw [hk]; rfl
  rw [hk] at har hbd
  rw [hka]
  have hkl : k < 1000000 := by omega
  have HAR := hide har
  have hr0 : (k : Int).tmod 4 = ((k % 4 : Nat) : Int) := by rw [Int.tmod_eq_emod_of_nonneg (by omega)]; omega
  clear har hbd hk hka
  go_enter Tryz.func7, Tryz.ntmps7
  go_wp2_with fail
  refine HAR.out.mono ?_
  rintro e w1 ⟨rfl, rfl⟩
  go_wp2_with fail
  go_loopw [3, 4, 5] (fun v3 v4 v5 wr => ∃ (kk i : Nat) (s : ByteArray), v3 = .int .i64 kk ∧ v4 = .string s ∧ v5 = .int .i64 i ∧ kk < 1000000 ∧ i ≤ 3 ∧ Ext w wr ∧ Hid (pathGo i kk (bl s) = pathGo (k % 4) k []) ∧ Hid (s.size ≤ 100 - 10 * i)) (fun _ _ i _ => (intOf i).toNat)
  case atStart => exact ⟨k, k % 4, _, rfl, rfl, rfl, hkl, by omega, Below.refl _ _, rfl, by show (0 : Nat) ≤ _; omega⟩
  case round =>
    obtain ⟨kk, i, s, rfl, rfl, rfl, hkk, hi, hext, HG, HZ⟩ := hrel
    clear hr0
    cases i with
    | zero =>
      have hlt : ¬ (0 : Int) > 0 := by omega
      by_cases hk0 : k % 4 = 0
      · have hs : bl s = [] := by
          have := HG.out
          rw [hk0] at this
          exact this
        obtain ⟨f1, f2⟩ := toL_nil s true (by rw [hs]; rfl)
        have HP := hide (show pathN k = [47] by unfold pathN; rw [if_pos hk0])
        clear hs hk0
        go_wp2
        go_ret
        exact ⟨_, rfl, by rw [HP.out]; rfl, hext⟩
      · have hs : bl s = pathN k := by unfold pathN; rw [if_neg hk0]; exact HG.out
        have hne : (bl s).isEmpty = false := by
          have h1 : bl s = pathGo (k % 4) k [] := HG.out
          obtain ⟨j, hj⟩ : ∃ j, k % 4 = j + 1 := ⟨k % 4 - 1, by omega⟩
          rw [hj] at h1
          have := pathGo_ne j (k / 4) ([] ++ [47] ++ nameP (k / 4 % 4)) (by simp)
          rw [h1]
          unfold pathGo
          cases hq : pathGo j (k / 4) ([] ++ [47] ++ nameP (k / 4 % 4)) with
          | nil => exact absurd hq this
          | cons => rfl
        obtain ⟨f1, f2⟩ := toL_nil s false hne
        have HP := hide hs
        clear hs hk0 hne
        go_wp2
        go_ret
        exact ⟨_, rfl, HP.out, hext⟩
    | succ i =>
      have hq : ((kk : Nat) : Int).tdiv 4 = ((kk / 4 : Nat) : Int) := by rw [Int.tdiv_eq_ediv_of_nonneg (by omega)]; omega
      have hkq : kk / 4 < 1000000 := by omega
      have hstep : ∀ (nm : ByteArray), bl nm = nameP (kk / 4 % 4) → pathGo i (kk / 4) (bl (s ++ ⟨#[47]⟩ ++ nm)) = pathGo (k % 4) k [] := fun nm h => by
        rw [bl_app, bl_app, h]
        exact HG.out
      have hsz : ∀ (nm : ByteArray), nm.size ≤ 2 → (s ++ ⟨#[47]⟩ ++ nm).size ≤ 100 - 10 * i := fun nm h => by
        have := HZ.out
        rw [ByteArray.size_append, ByteArray.size_append]
        have e : (⟨#[47]⟩ : ByteArray).size = 1 := rfl
        omega
      have HSTEP := hide hstep
      have HSZ := hide hsz
      clear hstep hsz
      obtain ⟨q, hqq⟩ : ∃ q, kk / 4 = q := ⟨_, rfl⟩
      rw [hqq] at hq hkq HSTEP
      clear HG hqq
      obtain ⟨d, hd⟩ : ∃ d, q % 4 = d := ⟨_, rfl⟩
      have hr : (q : Int).tmod 4 = (d : Int) := by rw [Int.tmod_eq_emod_of_nonneg (by omega)]; omega
      have hd4 : d < 4 := by omega
      rw [hd] at HSTEP
      clear hd
      have hszs : s.size ≤ 1000 := by have := HZ.out; omega
      rcases (by omega : d = 0 ∨ d = 1 ∨ d = 2 ∨ d = 3) with rfl | rfl | rfl | rfl
      all_goals
        go_wp2
        go_roundw
        case rel => exact ⟨q, i, _, rfl, rfl, by go_num, hkq, by omega, hext.trans ((Below.refl _ _).alloc (Nat.le_refl _) _), HSTEP.out _ rfl, HSZ.out _ (by decide)⟩
        case measure => simp [intOf]
end Go.Proofs.YtlaaapfpchnmeaaGreatDoor
