/- choose.byTwo and Pick by two, where the draws are elder than the rest. -/
import Derived.Test.YtoncfogihiapiaaChQ
namespace Go.Proofs.Ytoncfogihiapiaa
open Go.ChangeShapes Go.WideShapes Go.ChangeAt Go.RowKit Go.Maps Go.Shelf
theorem grown_refl (w : World) (r : Option Nat) : w.grownBy w r := ⟨rfl, rfl, rfl, Nat.le_refl _, fun _ _ _ => rfl⟩
theorem ext_grown {w w' : World} (h : Ext w w') (r : Option Nat) : w.grownBy w' r := ⟨h.os, h.tape, h.output, h.size, fun k hk _ => h.block k hk⟩
theorem grown_ext {a b c : World} {r : Option Nat} (h : a.grownBy b r) (k : Ext b c) : a.grownBy c r := grown_trans h (ext_grown k r)
set_option maxRecDepth 100000 in
set_option maxHeartbeats 800000 in
theorem byTwo_g (w : World) (S : List Int) (L : List (Int × Int)) (u v : Value) (B : Nat) (said : List Int) (used : Nat) (hs : ∀ X, w.grownBy X (some B) → Ints X u S) (hL : ∀ X, w.grownBy X (some B) → Parts X v L) (hd : DrawsAt w B said used) (hu : used ≤ 999999) (h2 : 2 ≤ S.length) (hl : S.length ≤ 1000) :
    Calls Try.prog 27 #[u, v, .pointer (some ⟨B, 0, none⟩)] w fun e w' => ∃ i j : Nat, ∃ hi : i < S.length, ∃ hj : j < S.length, i ≠ j ∧ e = .returned (.int .i64 (lessOf L S[i] S[j])) ∧ (∀ a b xs, said = a :: b :: xs → (i : Int) = a % S.length ∧ (j : Int) = if a % S.length ≤ b % (S.length - 1) then b % (S.length - 1) + 1 else b % (S.length - 1)) ∧ DrawsAt w' B said.tail.tail (used + 2) ∧ w.grownBy w' (some B) := by
  obtain ⟨_, a, cap, rfl⟩ := (hs w (grown_refl w _)).shape
  obtain ⟨_, a2, cap2, rfl⟩ := (hL w (grown_refl w _)).shape
  have HT := hide (two_any w B said used S.length hd hu (by omega))
  have hld : ∀ (X : World) (z : Int), w.grownBy X (some B) → Calls Try.prog 9 #[.slice a2 L.length cap2, .int .i64 z] X fun e w' => e = .returned (.int .i64 (loadI L z)) ∧ Ext X w' := fun X z hX => cload_any L z _ X (hL X hX)
  have HLD := hide hld
  have HS := hide hs
  have h2z : (2 : Int) ≤ S.length := by omega
  have hne1 : ((S.length : Int) == 1) = false := beq_eq_false_iff_ne.2 (by omega)
  have hlz : (S.length : Int) ≤ 1000 := by omega
  clear hld hs hL hd
  go_enter Try.func27, Try.ntmps27
  go_wp2_with fail
  refine HT.out.mono ?_
  rintro e w1 ⟨i', j', rfl, hi, hj, hij, hsd, hd1, hg⟩
  obtain ⟨i, rfl⟩ : ∃ i : Nat, i' = i := ⟨i'.toNat, by omega⟩
  obtain ⟨j, rfl⟩ : ∃ j : Nat, j' = j := ⟨j'.toNat, by omega⟩
  have hiL : i < S.length := by omega
  have hjL : j < S.length := by omega
  have hijn : i ≠ j := fun h => hij (by rw [h])
  have he1 : w.grownBy w1 (some B) := hg
  obtain ⟨b, off, rfl, hbb, hci⟩ := ints_at (HS.out _ he1) i hiL
  obtain ⟨b', off', eb, _, hcj⟩ := ints_at (HS.out _ he1) j hjL
  cases eb
  have HSD := hide hsd
  have HD1 := hide hd1
  obtain ⟨x, hx⟩ : ∃ x, S[i] = x := ⟨_, rfl⟩
  obtain ⟨y, hy⟩ : ∃ y, S[j] = y := ⟨_, rfl⟩
  have hlo : lessOf L S[i] S[j] = lessOf L x y := by rw [hx, hy]
  rw [hx] at hci
  rw [hy] at hcj
  have hed : w.grownBy w1.drew (some B) := grown_ext he1 ((Below.refl _ w1).drew)
  have HED := hide hed
  have HLO := hide hlo
  have hciz : ∀ X : World, Ext w1.drew X → X.cell? ⟨b, off + i, none⟩ = some (.int .i64 x) := fun X hX => (hX.cell (p := ⟨b, off + i, none⟩) hbb).trans hci
  have hcjz : ∀ X : World, Ext w1.drew X → X.cell? ⟨b, off + j, none⟩ = some (.int .i64 y) := fun X hX => (hX.cell (p := ⟨b, off + j, none⟩) hbb).trans hcj
  have HCI := hide hciz
  have hgx := hg.size
  have HCJ := hide hcjz
  obtain ⟨A, hA⟩ : ∃ A, loadI L y = A := ⟨_, rfl⟩
  obtain ⟨C, hC⟩ : ∃ C, loadI L x = C := ⟨_, rfl⟩
  have hlx : lessOf L x y = if A < C then y else x := by unfold lessOf; rw [hA, hC]
  have HLX := hide hlx
  have hl1 : ∀ X : World, w.grownBy X (some B) → Calls Try.prog 9 #[.slice a2 L.length cap2, .int .i64 y] X fun e w' => e = .returned (.int .i64 A) ∧ Ext X w' := fun X hX => by rw [← hA]; exact HLD.out X y hX
  have hl2 : ∀ X : World, w.grownBy X (some B) → Calls Try.prog 9 #[.slice a2 L.length cap2, .int .i64 x] X fun e w' => e = .returned (.int .i64 C) ∧ Ext X w' := fun X hX => by rw [← hC]; exact HLD.out X x hX
  have HL1 := hide hl1
  have HL2 := hide hl2
  clear hx hy hlo hed hciz hcjz hA hC hlx hl1 hl2 he1 hsd hd1 hij hgx
  clear HLD HT
  go_wp2_with fail
  go_region_held3 (fun w' => w'.cell? ⟨b, off + i, none⟩ = some (.int .i64 x) ∧ w'.cell? ⟨b, off + j, none⟩ = some (.int .i64 y))
    (first
      | exact ⟨HCI.out _ (E7.trans E8), HCJ.out _ (E7.trans E8)⟩
      | exact ⟨HCI.out _ E7, HCJ.out _ E7⟩
      | exact ⟨HCI.out _ (Below.refl _ _), HCJ.out _ (Below.refl _ _)⟩)
    (first
      | (go_at_call 9; refine (HL2.out _ (grown_ext HED.out E7)).mono ?_; rintro e w8 ⟨rfl, E8⟩)
      | (go_at_call 9; refine (HL1.out _ HED.out).mono ?_; rintro e w7 ⟨rfl, E7⟩))
  have hci8 := HCI.out _ (E7.trans E8)
  have hcj8 := HCJ.out _ (E7.trans E8)
  have hE := grown_ext HED.out (E7.trans E8)
  have hD := (HD1.out.ext ((Below.refl _ w1).drew)).ext (E7.trans E8)
  have HLX2 := HLO.out.trans HLX.out
  by_cases hAC : A < C
  · rw [if_pos hAC] at HLX2
    have HR := hide HLX2
    clear HLX2
    go_wp2
    go_ret
    first
      | exact ⟨i, j, hiL, hjL, hijn, by rw [HR.out]; rfl, HSD.out, hD, hE⟩
      | exact ⟨i, j, hijn, ⟨hiL, hjL, by rw [HR.out]; rfl⟩, HSD.out, hD, hE⟩
  · rw [if_neg hAC] at HLX2
    have HR := hide HLX2
    clear HLX2
    go_wp2
    go_ret
    first
      | exact ⟨i, j, hiL, hjL, hijn, by rw [HR.out]; rfl, HSD.out, hD, hE⟩
      | exact ⟨i, j, hijn, ⟨hiL, hjL, by rw [HR.out]; rfl⟩, HSD.out, hD, hE⟩
theorem pickTwo_g (w : World) (S : List Int) (L : List (Int × Int)) (a1 : Option Addr) (c1 : Nat) (a2 : Option Addr) (c2 : Nat) (B Br : Nat) (key : Int) (used : Nat) (hs : ∀ X, w.grownBy X (some B) → Ints X (.slice a1 S.length c1) S) (hL : ∀ X, w.grownBy X (some B) → Parts X (.slice a2 L.length c2) L) (hd : DrawsAt w B [] used) (hu : used ≤ 999999) (h2 : 2 ≤ S.length) (hl : S.length ≤ 1000) :
    Calls Try.prog 16 #[.int .i64 1, .pointer (some ⟨Br, 0, none⟩), .slice a1 S.length c1, .int .u64 key, .slice a2 L.length c2, .pointer (some ⟨B, 0, none⟩)] w fun e w' => ∃ x, e = .returned (.tuple #[.int .i64 x, .bool true]) ∧ ByTwo S L x ∧ DrawsAt w' B [] (used + 2) ∧ w.grownBy w' (some B) := by
  refine pick1_any w a1 S.length c1 a2 L.length c2 Br B key (fun x w' => ByTwo S L x ∧ DrawsAt w' B [] (used + 2) ∧ w.grownBy w' (some B)) (by omega) (fun W hW => ?_)
  have hg := ext_grown hW (some B)
  refine (byTwo_g W S L (.slice a1 S.length c1) (.slice a2 L.length c2) B [] used (fun X hX => hs X (grown_trans hg hX)) (fun X hX => hL X (grown_trans hg hX)) (hd.ext hW) hu h2 hl).mono ?_
  rintro e w' ⟨i, j, hi, hj, hij, rfl, _, hD, hE⟩
  exact ⟨_, rfl, ⟨i, j, hi, hj, hij, rfl⟩, hD, grown_trans hg hE⟩
/-- of two loads the less one is told -/
theorem byTwo_pair {x y z : Int} (h : ByTwo [1, 2] [(1, x), (2, y)] z) : (z = 1 ∧ x ≤ y) ∨ (z = 2 ∧ y ≤ x) := by
  obtain ⟨i, j, hi, hj, hij, rfl⟩ := h
  have h1 : loadI [(1, x), (2, y)] 1 = x := by simp [loadI, loadF]
  have h2 : loadI [(1, x), (2, y)] 2 = y := by simp [loadI, loadF]
  simp only [List.length_cons, List.length_nil] at hi hj
  have hc : (i = 0 ∧ j = 1) ∨ (i = 1 ∧ j = 0) := by omega
  rcases hc with ⟨rfl, rfl⟩ | ⟨rfl, rfl⟩
  · show (lessOf _ 1 2 = 1 ∧ _) ∨ (lessOf _ 1 2 = 2 ∧ _)
    unfold lessOf
    rw [h1, h2]
    by_cases h : y < x
    · rw [if_pos h]; exact .inr ⟨rfl, by omega⟩
    · rw [if_neg h]; exact .inl ⟨rfl, by omega⟩
  · show (lessOf _ 2 1 = 1 ∧ _) ∨ (lessOf _ 2 1 = 2 ∧ _)
    unfold lessOf
    rw [h1, h2]
    by_cases h : x < y
    · rw [if_pos h]; exact .inl ⟨rfl, by omega⟩
    · rw [if_neg h]; exact .inr ⟨rfl, by omega⟩
end Go.Proofs.Ytoncfogihiapiaa
