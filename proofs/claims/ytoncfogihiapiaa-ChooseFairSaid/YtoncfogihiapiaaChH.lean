/- lives of layer 12. -/
import Derived.Test.YtoncfogihiapiaaChG
namespace Go.Proofs.Ytoncfogihiapiaa
open Go.ChangeShapes Go.WideShapes Go.ChangeAt Go.RowKit Go.Maps Go.Shelf
theorem pick34 (w0 w : World) (B Br : Nat) (a1 : Option Addr) (c1 : Nat) (a2 : Option Addr) (c2 : Nat) (x y : Int) (hs : Ints w0 (.slice a1 2 c1) [3, 4]) (hL : Parts w0 (.slice a2 2 c2) [(3, 5), (4, 2)]) (he : Ext w0 w) (hB : w0.heap.size ≤ B) (hd : DrawsAt w B [x, y] 0) (hxy : x = 0 ∧ y = 0 ∨ x = 1 ∧ y = 0) :
    Calls Try.prog 16 #[.int .i64 1, .pointer (some ⟨Br, 0, none⟩), .slice a1 2 c1, .int .u64 0, .slice a2 2 c2, .pointer (some ⟨B, 0, none⟩)] w fun e w' => e = .returned (.tuple #[.int .i64 4, .bool true]) ∧ Ext w0 w' := by
  have h := pick1_any w a1 2 c1 a2 2 c2 Br B 0 (fun z w' => z = 4 ∧ Ext w0 w') (by omega) (fun W hW => by
    refine (byTwo_any w0 W [3, 4] [(3, 5), (4, 2)] (.slice a1 2 c1) (.slice a2 2 c2) B [x, y] 0 hs hL (he.trans hW) hB (hd.ext hW) (by omega) (by simp) (by simp)).mono ?_
    rintro e w' ⟨i, j, hi, hj, hij, rfl, hsd, _, hE⟩
    refine ⟨_, rfl, ?_, hE⟩
    have hd2 := hsd x y [] rfl
    rcases hxy with ⟨rfl, rfl⟩ | ⟨rfl, rfl⟩
    · simp at hd2
      obtain ⟨h1, h2⟩ := hd2
      obtain rfl : i = 0 := by omega
      obtain rfl : j = 1 := by omega
      rfl
    · simp at hd2
      obtain ⟨h1, h2⟩ := hd2
      obtain rfl : i = 1 := by omega
      obtain rfl : j = 0 := by omega
      rfl)
  exact h.mono (by rintro e w' ⟨z, rfl, rfl, hE⟩; exact ⟨rfl, hE⟩)
set_option maxRecDepth 100000 in
set_option maxHeartbeats 4000000 in
theorem lives12_any (w : World) : Calls Try.prog 11 #[] w fun e w' => e = .returned (.bool true) ∧ Ext w w' := by
  have hNew : ∀ u : World, Calls Try.prog 17 #[.slice none 0 0, .int .i64 1] u fun e w' => ∃ B, e = .returned (.pointer (some ⟨B, 0, none⟩)) ∧ Ext u w' := fun u =>
    (new_any [] (.slice none 0 0) 1 u (ints_nil u 0 (by omega)) (by omega) (by simp)).mono (by rintro e w' ⟨r, rfl, hr, he⟩; obtain ⟨B, rfl⟩ := hr.shape'; exact ⟨B, rfl, he⟩)
  have hDr : ∀ (u : World) (b : Nat) (x y : Int), b = u.heap.size → U64 x → U64 y → Calls Try.prog 14 #[.int .u64 1, .slice (some ⟨b, 0, none⟩) 2 2] (u.alloc (.cells #[.int .u64 x, .int .u64 y] 29)) fun e w' => ∃ B, e = .returned (.pointer (some ⟨B, 0, none⟩)) ∧ DrawsAt w' B [x, y] 0 ∧ (u.alloc (.cells #[.int .u64 x, .int .u64 y] 29)).heap.size ≤ B ∧ Ext (u.alloc (.cells #[.int .u64 x, .int .u64 y] 29)) w' := fun u b x y hb hx hy => by
    subst hb
    exact newD_said 1 _ [x, y] _ (by unfold U64; omega) (uints_lit u x y _) (by simp) (by simp) (by intro z hz; simp at hz; rcases hz with rfl | rfl <;> assumption)
  have hDn : ∀ (u : World), Calls Try.prog 14 #[.int .u64 1, .slice none 0 0] u fun e w' => ∃ B, e = .returned (.pointer (some ⟨B, 0, none⟩)) ∧ Ext u w' := fun u =>
    (newD_nil 1 u (by unfold U64; omega)).mono (by rintro e w' ⟨B, rfl, _, _, he⟩; exact ⟨B, rfl, he⟩)
  have hLd : ∀ (u : World) (a : Option Addr) (c : Nat), Parts u (.slice a 2 c) [(3, 5), (4, 2)] → Calls Try.prog 9 #[.slice a 2 c, .int .i64 3] u fun e w' => e = .returned (.int .i64 5) ∧ Ext u w' := fun u a c h => cload_any [(3, 5), (4, 2)] 3 _ u h
  have HN := hide hNew
  have HDR := hide hDr
  have HDN := hide hDn
  have HLD := hide hLd
  clear hNew hDr hDn hLd
  have e0 : Ext w (w.alloc (.cells #[.int .i64 3, .int .i64 5, .int .i64 4, .int .i64 2] 25)) := (Below.refl _ _).alloc (Nat.le_refl _) _
  have hL := parts_lit w 3 5 4 2 25
  obtain ⟨al, hal⟩ : ∃ al, (some ⟨w.heap.size, 0, none⟩ : Option Addr) = al := ⟨_, rfl⟩
  have HL := hide hL
  clear hL hal al
  go_enter Try.func11, Try.ntmps11
  go_wp2_with fail
  refine (HN.out _).mono ?_
  rintro e w1 ⟨B1, rfl, E1⟩
  have HL1 := hide (HL.out.ext E1)
  have e1 : Ext w1 (w1.alloc (.cells #[.int .i64 3, .int .i64 4] 3)) := (Below.refl _ _).alloc (Nat.le_refl _) _
  have hS1 := ints_lit w1 3 4 3
  have HS1 := hide hS1
  clear hS1
  go_wp2_with fail
  refine (HDR.out _ _ 0 0 (by simp) (by unfold U64; omega) (by unfold U64; omega)).mono ?_
  rintro e w1d ⟨B1d, rfl, hd1, hB1, E1d⟩
  have e1u : Ext (w1.alloc (.cells #[.int .i64 3, .int .i64 4] 3)) ((w1.alloc (.cells #[.int .i64 3, .int .i64 4] 3)).alloc (.cells #[.int .u64 0, .int .u64 0] 29)) := (Below.refl _ _).alloc (Nat.le_refl _) _
  have HD1 := hide hd1
  clear hd1
  go_wp2_with fail
  refine (pick34 _ _ _ _ _ _ _ _ 0 0 (HS1.out.ext e1u) ((HL1.out.ext e1).ext e1u) E1d hB1 HD1.out (by omega)).mono ?_
  rintro e w1p ⟨rfl, E1p⟩
  have HL1p := hide (((HL1.out.ext e1).ext e1u).ext E1p)
  go_wp2_with fail
  refine (HN.out _).mono ?_
  rintro e w2 ⟨B2, rfl, E2⟩
  have HL2 := hide (HL1p.out.ext E2)
  have e2 : Ext w2 (w2.alloc (.cells #[.int .i64 3, .int .i64 4] 3)) := (Below.refl _ _).alloc (Nat.le_refl _) _
  have hS2 := ints_lit w2 3 4 3
  have HS2 := hide hS2
  clear hS2
  go_wp2_with fail
  refine (HDR.out _ _ 1 0 (by simp) (by unfold U64; omega) (by unfold U64; omega)).mono ?_
  rintro e w2d ⟨B2d, rfl, hd2, hB2, E2d⟩
  have e2u : Ext (w2.alloc (.cells #[.int .i64 3, .int .i64 4] 3)) ((w2.alloc (.cells #[.int .i64 3, .int .i64 4] 3)).alloc (.cells #[.int .u64 1, .int .u64 0] 29)) := (Below.refl _ _).alloc (Nat.le_refl _) _
  have HD2 := hide hd2
  clear hd2
  go_wp2_with fail
  refine (pick34 _ _ _ _ _ _ _ _ 1 0 (HS2.out.ext e2u) ((HL2.out.ext e2).ext e2u) E2d hB2 HD2.out (by omega)).mono ?_
  rintro e w2p ⟨rfl, E2p⟩
  have HL2p := hide (((HL2.out.ext e2).ext e2u).ext E2p)
  go_wp2_with fail
  refine (HN.out _).mono ?_
  rintro e w3 ⟨B3, rfl, E3⟩
  go_wp2_with fail
  refine (HDN.out _).mono ?_
  rintro e w3d ⟨B3d, rfl, E3d⟩
  go_wp2_with fail
  refine (pick0_any _ 1 _ _ _ _ _ 0).mono ?_
  rintro e w3p ⟨rfl, E3p⟩
  go_wp2_with fail
  refine (HLD.out _ _ _ (((HL2p.out.ext E3).ext E3d).ext E3p)).mono ?_
  rintro e w4 ⟨rfl, E4⟩
  go_wp2_with fail
  go_ret
  exact ⟨rfl, e0.trans (E1.trans (e1.trans (e1u.trans (E1p.trans (E2.trans (e2.trans (e2u.trans (E2p.trans (E3.trans (E3d.trans (E3p.trans E4)))))))))))⟩
end Go.Proofs.Ytoncfogihiapiaa
