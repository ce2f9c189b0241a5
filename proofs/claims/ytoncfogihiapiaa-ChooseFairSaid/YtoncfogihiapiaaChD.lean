/- choose.byTwo. -/
import Derived.Test.YtoncfogihiapiaaChC
namespace Go.Proofs.Ytoncfogihiapiaa
open Go.ChangeShapes Go.WideShapes Go.ChangeAt Go.RowKit Go.Maps Go.Shelf
/-- of two: the less loaded -/
def lessOf (L : List (Int × Int)) (x y : Int) : Int := if loadI L y < loadI L x then y else x
theorem byTwo_one (x : Int) (u v d : Value) (w : World) (hs : Ints w u [x]) :
    Calls Try.prog 27 #[u, v, d] w fun e w' => e = .returned (.int .i64 x) ∧ w = w' := by
  obtain ⟨_, a, cap, rfl⟩ := hs.shape
  obtain ⟨b, off, rfl, _, hc⟩ := ints_at hs 0 (by simp)
  simp only [Nat.add_zero, List.getElem_cons_zero] at hc
  have hl : ([x] : List Int).length = 1 := rfl
  rw [hl]
  clear hs hl
  go_enter Try.func27, Try.ntmps27
  go_wp2
  go_ret
  exact ⟨rfl, rfl⟩
set_option maxRecDepth 100000 in
set_option maxHeartbeats 800000 in
theorem byTwo_any (w0 w : World) (S : List Int) (L : List (Int × Int)) (u v : Value) (B : Nat) (said : List Int) (used : Nat) (hs : Ints w0 u S) (hL : Parts w0 v L) (he : Ext w0 w) (hB : w0.heap.size ≤ B) (hd : DrawsAt w B said used) (hu : used ≤ 999999) (h2 : 2 ≤ S.length) (hl : S.length ≤ 1000) :
    Calls Try.prog 27 #[u, v, .pointer (some ⟨B, 0, none⟩)] w fun e w' => ∃ i j : Nat, ∃ hi : i < S.length, ∃ hj : j < S.length, i ≠ j ∧ e = .returned (.int .i64 (lessOf L S[i] S[j])) ∧ (∀ a b xs, said = a :: b :: xs → (i : Int) = a % S.length ∧ (j : Int) = if a % S.length ≤ b % (S.length - 1) then b % (S.length - 1) + 1 else b % (S.length - 1)) ∧ DrawsAt w' B said.tail.tail (used + 2) ∧ Ext w0 w' := by
  obtain ⟨_, a, cap, rfl⟩ := hs.shape
  obtain ⟨_, a2, cap2, rfl⟩ := hL.shape
  have HT := hide (two_any w B said used S.length hd hu (by omega))
  have hld : ∀ (X : World) (z : Int), Ext w0 X → Calls Try.prog 9 #[.slice a2 L.length cap2, .int .i64 z] X fun e w' => e = .returned (.int .i64 (loadI L z)) ∧ Ext X w' := fun X z hX => cload_any L z _ X (hL.ext hX)
  have HLD := hide hld
  have HS := hide hs
  have h2z : (2 : Int) ≤ S.length := by omega
  have hne1 : ((S.length : Int) == 1) = false := beq_eq_false_iff_ne.2 (by omega)
  have hlz : (S.length : Int) ≤ 1000 := by omega
  clear hld hs hL hd
  go_enter Try.func27, Try.ntmps27
  go_wp2_with fail
  refine HT.out.mono ?_
  rintro e w1 ⟨i', j', rfl, hi, hj, hij, hsd, hd1, hg⟩
  obtain ⟨i, rfl⟩ : ∃ i : Nat, i' = i := ⟨i'.toNat, by omega⟩
  obtain ⟨j, rfl⟩ : ∃ j : Nat, j' = j := ⟨j'.toNat, by omega⟩
  have hiL : i < S.length := by omega
  have hjL : j < S.length := by omega
  have hijn : i ≠ j := fun h => hij (by rw [h])
  have he1 : Ext w0 w1 := he.grown hg he.size (fun r hr => by cases hr; exact hB)
  obtain ⟨b, off, rfl, hbb, hci⟩ := ints_at (HS.out.ext he1) i hiL
  obtain ⟨b', off', eb, _, hcj⟩ := ints_at (HS.out.ext he1) j hjL
  cases eb
  have HSD := hide hsd
  have HD1 := hide hd1
  obtain ⟨x, hx⟩ : ∃ x, S[i] = x := ⟨_, rfl⟩
  obtain ⟨y, hy⟩ : ∃ y, S[j] = y := ⟨_, rfl⟩
  have hlo : lessOf L S[i] S[j] = lessOf L x y := by rw [hx, hy]
  rw [hx] at hci
  rw [hy] at hcj
  have hed : Ext w0 w1.drew := he1.drew
  have HED := hide hed
  have HLO := hide hlo
  have hciz : ∀ X : World, Ext w1.drew X → X.cell? ⟨b, off + i, none⟩ = some (.int .i64 x) := fun X hX => (hX.cell (p := ⟨b, off + i, none⟩) hbb).trans hci
  have hcjz : ∀ X : World, Ext w1.drew X → X.cell? ⟨b, off + j, none⟩ = some (.int .i64 y) := fun X hX => (hX.cell (p := ⟨b, off + j, none⟩) hbb).trans hcj
  have HCI := hide hciz
  have hgx := hg.size
  have HCJ := hide hcjz
  obtain ⟨A, hA⟩ : ∃ A, loadI L y = A := ⟨_, rfl⟩
  obtain ⟨C, hC⟩ : ∃ C, loadI L x = C := ⟨_, rfl⟩
  have hlx : lessOf L x y = if A < C then y else x := by unfold lessOf; rw [hA, hC]
  have HLX := hide hlx
  have hl1 : ∀ X : World, Ext w0 X → Calls Try.prog 9 #[.slice a2 L.length cap2, .int .i64 y] X fun e w' => e = .returned (.int .i64 A) ∧ Ext X w' := fun X hX => by rw [← hA]; exact HLD.out X y hX
  have hl2 : ∀ X : World, Ext w0 X → Calls Try.prog 9 #[.slice a2 L.length cap2, .int .i64 x] X fun e w' => e = .returned (.int .i64 C) ∧ Ext X w' := fun X hX => by rw [← hC]; exact HLD.out X x hX
  have HL1 := hide hl1
  have HL2 := hide hl2
  clear hx hy hlo hed hciz hcjz hA hC hlx hl1 hl2 he1 hsd hd1 hij hgx
  clear HLD HT
  go_wp2_with fail
  go_region_held3 (fun w' => w'.cell? ⟨b, off + i, none⟩ = some (.int .i64 x) ∧ w'.cell? ⟨b, off + j, none⟩ = some (.int .i64 y))
    (first
      | exact ⟨HCI.out _ (E7.trans E8), HCJ.out _ (E7.trans E8)⟩
      | exact ⟨HCI.out _ E7, HCJ.out _ E7⟩
      | exact ⟨HCI.out _ (Below.refl _ _), HCJ.out _ (Below.refl _ _)⟩)
    (first
      | (go_at_call 9; refine (HL2.out _ (HED.out.trans E7)).mono ?_; rintro e w8 ⟨rfl, E8⟩)
      | (go_at_call 9; refine (HL1.out _ HED.out).mono ?_; rintro e w7 ⟨rfl, E7⟩))
  have hci8 := HCI.out _ (E7.trans E8)
  have hcj8 := HCJ.out _ (E7.trans E8)
  have hE := HED.out.trans (E7.trans E8)
  have hD := (HD1.out.ext ((Below.refl _ w1).drew)).ext (E7.trans E8)
  have HLX2 := HLO.out.trans HLX.out
  by_cases hAC : A < C
  · rw [if_pos hAC] at HLX2
    have HR := hide HLX2
    clear HLX2
    go_wp2
    go_ret
    first
      | exact ⟨i, j, hiL, hjL, hijn, by rw [HR.out]; rfl, HSD.out, hD, hE⟩
      | exact ⟨i, j, hijn, ⟨hiL, hjL, by rw [HR.out]; rfl⟩, HSD.out, hD, hE⟩
  · rw [if_neg hAC] at HLX2
    have HR := hide HLX2
    clear HLX2
    go_wp2
    go_ret
    first
      | exact ⟨i, j, hiL, hjL, hijn, by rw [HR.out]; rfl, HSD.out, hD, hE⟩
      | exact ⟨i, j, hijn, ⟨hiL, hjL, by rw [HR.out]; rfl⟩, HSD.out, hD, hE⟩
end Go.Proofs.Ytoncfogihiapiaa
