/- ChooseLoad: the walk. -/
import Derived.Test.YtoncfogihiapiaaChH
namespace Go.Proofs.Ytoncfogihiapiaa
open Go.ChangeShapes Go.WideShapes Go.ChangeAt Go.RowKit Go.Maps Go.Shelf
set_option maxRecDepth 100000 in
set_option maxHeartbeats 4000000 in
theorem cload_walk (L : List (Int × Int)) (v : Value) (id : Int) (w : World) (hs : Parts w v L) :
    Calls Try.prog 3 #[v, .int .i64 id] w fun e w' => e = .returned (.bool true) ∧ Ext w w' := by
  obtain ⟨hll, a, cap, rfl⟩ := hs.shape
  have hnilL : ∀ X : World, Calls Try.prog 9 #[.slice none 0 0, .int .i64 id] X fun e w' => e = .returned (.int .i64 0) ∧ Ext X w' := fun X => cload_any [] id _ X ⟨by simp, none, 0, rfl, by simp, fun i x hi => by simp at hi⟩
  have HNL := hide hnilL
  clear hnilL
  have hcap : L.length ≤ cap := by obtain ⟨_, a', c', e, h', _⟩ := hs; cases e; exact h'.1
  by_cases hlen : 8 < L.length
  · have hlz : (8 : Int) < L.length := by omega
    have hcz : (8 : Int) ≤ cap := by omega
    have htk := Sl.take hs 8 (by omega)
    have hml : (L.take 8).length = 8 := by rw [List.length_take]; omega
    obtain ⟨M, hM⟩ : ∃ M, L.take 8 = M := ⟨_, rfl⟩
    rw [hM] at htk hml
    have HM := hide htk
    clear hs htk hM
    go_enter Try.func3, Try.ntmps3
    go_wp2
    go_loopw [5] (fun i wr => ∃ k : Nat, k ≤ 8 ∧ i = .int .i64 k ∧ Ext w wr) (fun i _ => 8 - (intOf i).toNat)
    case atStart => exact ⟨0, Nat.zero_le _, rfl, Below.refl _ _⟩
    case round =>
      obtain ⟨k, hk, rfl, hext⟩ := hrel
      have hA : ∀ (X : World) (z : Int), Ext wr X → Calls Try.prog 9 #[.slice a 8 cap, .int .i64 z] X fun e w' => e = .returned (.int .i64 (loadI M z)) ∧ Ext X w' := fun X z hX => by
        have := cload_any M z (.slice a 8 cap) X ((HM.out.ext hext).ext hX)
        exact this
      have hB : ∀ (X : World) (z : Int), Ext wr X → Calls Try.prog 10 #[.slice a 8 cap, .int .i64 z] X fun e w' => e = .returned (.int .i64 (loadI M z)) ∧ X = w' := fun X z hX => by
        have := rload_any M z (.slice a 8 cap) X ((HM.out.ext hext).ext hX)
        exact this
      have HA := hide hA
      have HB := hide hB
      clear hA hB
      by_cases hlt : k < 8
      · obtain ⟨b, off, rfl, hbb, hc1, _⟩ := parts_at (HM.out.ext hext) k (by omega)
        obtain ⟨z, hz⟩ : ∃ z, (M[k]'(by omega)).1 = z := ⟨_, rfl⟩
        rw [hz] at hc1
        have hcz : ∀ X : World, Ext wr.drew X → X.cell? ⟨b, off + k * 2, none⟩ = some (.int .i64 z) := fun X hX => (hX.cell (p := ⟨b, off + k * 2, none⟩) hbb).trans hc1
        have HCZ := hide hcz
        obtain ⟨A, hAA⟩ : ∃ A, loadI M z = A := ⟨_, rfl⟩
        have hA1 : ∀ X : World, Ext wr X → Calls Try.prog 9 #[.slice (some ⟨b, off, none⟩) 8 cap, .int .i64 z] X fun e w' => e = .returned (.int .i64 A) ∧ Ext X w' := fun X hX => by rw [← hAA]; exact HA.out X z hX
        have hB1 : ∀ X : World, Ext wr X → Calls Try.prog 10 #[.slice (some ⟨b, off, none⟩) 8 cap, .int .i64 z] X fun e w' => e = .returned (.int .i64 A) ∧ X = w' := fun X hX => by rw [← hAA]; exact HB.out X z hX
        have HA1 := hide hA1
        have HB1 := hide hB1
        have hd : Ext wr wr.drew := (Below.refl _ wr).drew
        have HD := hide hd
        clear hz hcz hAA hA1 hB1 hd HA HB
        go_wp2_with fail
        go_region_held3 (fun w' => w'.cell? ⟨b, off + k * 2, none⟩ = some (.int .i64 z))
          (first
            | exact HCZ.out _ E7
            | exact HCZ.out _ (Below.refl _ _))
          (first
            | (go_at_call 10; refine (HB1.out _ (HD.out.trans E7)).mono ?_; rintro e w8 ⟨rfl, rfl⟩)
            | (go_at_call 9; refine (HA1.out _ HD.out).mono ?_; rintro e w7 ⟨rfl, E7⟩))
        go_wp2
        go_roundw
        case rel => exact ⟨k + 1, hlt, by go_num, hext.trans (HD.out.trans E7)⟩
        case measure => (simp [intOf]) <;> omega
      · obtain rfl : k = 8 := by omega
        go_wp2_with fail
        refine (HA.out _ id (Below.refl _ _)).mono ?_
        rintro e w7 ⟨rfl, E7⟩
        go_wp2_with fail
        refine (HB.out _ id E7).mono ?_
        rintro e w8 ⟨rfl, rfl⟩
        go_wp2_with fail
        refine (HNL.out _).mono ?_
        rintro e w9 ⟨rfl, E9⟩
        go_wp2_with fail
        refine (lives12_any _).mono ?_
        rintro e w10 ⟨rfl, E10⟩
        go_wp2_with fail
        go_ret
        exact ⟨rfl, hext.trans (E7.trans (E9.trans E10))⟩
  · have hlz : ¬ (8 : Int) < L.length := by omega
    have hml : L.length = L.length := rfl
    have HM := hide hs
    clear hs
    go_enter Try.func3, Try.ntmps3
    go_wp2
    go_loopw [5] (fun i wr => ∃ k : Nat, k ≤ L.length ∧ i = .int .i64 k ∧ Ext w wr) (fun i _ => L.length - (intOf i).toNat)
    case atStart => exact ⟨0, Nat.zero_le _, rfl, Below.refl _ _⟩
    case round =>
      obtain ⟨k, hk, rfl, hext⟩ := hrel
      have hA : ∀ (X : World) (z : Int), Ext wr X → Calls Try.prog 9 #[.slice a L.length cap, .int .i64 z] X fun e w' => e = .returned (.int .i64 (loadI L z)) ∧ Ext X w' := fun X z hX => by
        have := cload_any L z (.slice a L.length cap) X ((HM.out.ext hext).ext hX)
        exact this
      have hB : ∀ (X : World) (z : Int), Ext wr X → Calls Try.prog 10 #[.slice a L.length cap, .int .i64 z] X fun e w' => e = .returned (.int .i64 (loadI L z)) ∧ X = w' := fun X z hX => by
        have := rload_any L z (.slice a L.length cap) X ((HM.out.ext hext).ext hX)
        exact this
      have HA := hide hA
      have HB := hide hB
      clear hA hB
      by_cases hlt : k < L.length
      · obtain ⟨b, off, rfl, hbb, hc1, _⟩ := parts_at (HM.out.ext hext) k (by omega)
        obtain ⟨z, hz⟩ : ∃ z, (L[k]'(by omega)).1 = z := ⟨_, rfl⟩
        rw [hz] at hc1
        have hcz : ∀ X : World, Ext wr.drew X → X.cell? ⟨b, off + k * 2, none⟩ = some (.int .i64 z) := fun X hX => (hX.cell (p := ⟨b, off + k * 2, none⟩) hbb).trans hc1
        have HCZ := hide hcz
        obtain ⟨A, hAA⟩ : ∃ A, loadI L z = A := ⟨_, rfl⟩
        have hA1 : ∀ X : World, Ext wr X → Calls Try.prog 9 #[.slice (some ⟨b, off, none⟩) L.length cap, .int .i64 z] X fun e w' => e = .returned (.int .i64 A) ∧ Ext X w' := fun X hX => by rw [← hAA]; exact HA.out X z hX
        have hB1 : ∀ X : World, Ext wr X → Calls Try.prog 10 #[.slice (some ⟨b, off, none⟩) L.length cap, .int .i64 z] X fun e w' => e = .returned (.int .i64 A) ∧ X = w' := fun X hX => by rw [← hAA]; exact HB.out X z hX
        have HA1 := hide hA1
        have HB1 := hide hB1
        have hd : Ext wr wr.drew := (Below.refl _ wr).drew
        have HD := hide hd
        clear hz hcz hAA hA1 hB1 hd HA HB
        go_wp2_with fail
        go_region_held3 (fun w' => w'.cell? ⟨b, off + k * 2, none⟩ = some (.int .i64 z))
          (first
            | exact HCZ.out _ E7
            | exact HCZ.out _ (Below.refl _ _))
          (first
            | (go_at_call 10; refine (HB1.out _ (HD.out.trans E7)).mono ?_; rintro e w8 ⟨rfl, rfl⟩)
            | (go_at_call 9; refine (HA1.out _ HD.out).mono ?_; rintro e w7 ⟨rfl, E7⟩))
        go_wp2
        go_roundw
        case rel => exact ⟨k + 1, hlt, by go_num, hext.trans (HD.out.trans E7)⟩
        case measure => (simp [intOf]) <;> omega
      · obtain rfl : k = L.length := by omega
        go_wp2_with fail
        refine (HA.out _ id (Below.refl _ _)).mono ?_
        rintro e w7 ⟨rfl, E7⟩
        go_wp2_with fail
        refine (HB.out _ id E7).mono ?_
        rintro e w8 ⟨rfl, rfl⟩
        go_wp2_with fail
        refine (HNL.out _).mono ?_
        rintro e w9 ⟨rfl, E9⟩
        go_wp2_with fail
        refine (lives12_any _).mono ?_
        rintro e w10 ⟨rfl, E10⟩
        go_wp2_with fail
        go_ret
        exact ⟨rfl, hext.trans (E7.trans (E9.trans E10))⟩
end Go.Proofs.Ytoncfogihiapiaa
