/- ChooseFair: the walk. -/
import Derived.Test.YtoncfogihiapiaaChR
import Derived.Test.YtoncfogihiapiaaChH
namespace Go.Proofs.Ytoncfogihiapiaa
open Go.ChangeShapes Go.WideShapes Go.ChangeAt Go.RowKit Go.Maps Go.Shelf
theorem ints_blk {w : World} {B : Nat} {a b : Int} {t : TypeId} (h : w.heap[B]? = some (.cells #[.int .i64 a, .int .i64 b] t (0, 0))) : Ints w (.slice (some ⟨B, 0, none⟩) 2 2) [a, b] := by
  refine Sl.of_own (enc := encI) (size := 1) encI_len (xs := [a, b]) (base := 0) (e := t) ⟨by simp [encI], .inr ⟨B, 2, _, rfl, Nat.zero_le _, h, Nat.le_refl _, by decide, by rfl, by simp [encI]⟩⟩ (by simp)
theorem parts_blk {w : World} {B : Nat} {a b c d : Int} {t : TypeId} (h : w.heap[B]? = some (.cells #[.int .i64 a, .int .i64 b, .int .i64 c, .int .i64 d] t (0, 0))) : Parts w (.slice (some ⟨B, 0, none⟩) 2 2) [(a, b), (c, d)] := by
  refine Sl.of_own (enc := encP) (size := 2) encP_len' (xs := [(a, b), (c, d)]) (base := 0) (e := t) ⟨by simp [encP], .inr ⟨B, 2, _, rfl, Nat.zero_le _, h, Nat.le_refl _, by decide, by rfl, by simp [encP]⟩⟩ (by simp)
theorem blk_grown {w w' : World} {B D : Nat} {o : Obj} (h : w.heap[B]? = some o) (hg : w.grownBy w' (some D)) (hne : B ≠ D) : w'.heap[B]? = some o :=
  (hg.block B (Array.getElem?_eq_some_iff.1 h).1 (fun e => hne (by cases e; rfl))).trans h
theorem draws_set {w : World} {A B : Nat} {u o : Nat} {v : Value} (h : DrawsAt w B [] u) (hne : B ≠ A) : DrawsAt (w.setCell ⟨A, o, none⟩ v) B [] u := by
  obtain ⟨f, sv, seed, hb, h1, h2, h3⟩ := h
  refine ⟨f, sv, seed, (Below.heap_setCell w _ v B (by simpa using hne)).trans hb, h1, h2, ?_⟩
  rcases h3 with h3 | ⟨h3, _⟩
  · exact .inl h3
  · exact absurd rfl h3
def gapI (x y : Int) : Int := max (x - y) (y - x)
set_option maxRecDepth 100000 in
set_option maxHeartbeats 8000000 in
theorem fair_walk (one two seed many : Int) (w : World) (h1 : I64 one) (h2 : I64 two) (h3 : U64 seed) (h4 : I64 many) :
    Calls Try.prog 7 #[.int .i64 one, .int .i64 two, .int .u64 seed, .int .i64 many] w fun e w' => e = .returned (.bool true) ∧ Ext w w' := by
  have b1 := around_bd one 10 (by omega)
  have b2 := around_bd two 10 (by omega)
  have b3 := around_bd many 31 (by omega)
  have ha : ∀ (z m : Int) (u : World), I64 z → 1 ≤ m ∧ m ≤ 1000 → Calls Try.prog 15 #[.int .i64 z, .int .i64 m] u fun e w' => e = .returned (.int .i64 (around z m)) ∧ u = w' := fun z m u hz hm => around_any z m u hz (by omega)
  have ha1 := fun u => ha one 10 u h1 (by omega)
  have ha2 := fun u => ha two 10 u h2 (by omega)
  have ha3 := fun u => ha many 31 u h4 (by omega)
  obtain ⟨x, hx⟩ : ∃ x, around one 10 = x := ⟨_, rfl⟩
  obtain ⟨y, hy⟩ : ∃ y, around two 10 = y := ⟨_, rfl⟩
  obtain ⟨q, hq⟩ : ∃ q, around many 31 = q := ⟨_, rfl⟩
  rw [hx] at b1 ha1
  rw [hy] at b2 ha2
  rw [hq] at b3 ha3
  have HA1 := hide ha1
  have HA2 := hide ha2
  have HA3 := hide ha3
  have H3 := hide h3
  clear ha ha1 ha2 ha3 hx hy hq h1 h2 h3 h4
  go_enter Try.func7, Try.ntmps7
  go_wp2_with fail
  refine (HA1.out _).mono ?_
  rintro e w1 ⟨rfl, rfl⟩
  go_wp2_with fail
  refine (HA2.out _).mono ?_
  rintro e w1 ⟨rfl, rfl⟩
  go_wp2_with fail
  refine (newD_nil seed _ H3.out).mono ?_
  rintro e w1 ⟨B, rfl, hd, hB, E1⟩
  have hb1 : w1.heap[w.heap.size]? = some (.cells #[.int .i64 1, .int .i64 x, .int .i64 2, .int .i64 y] 25 (0, 0)) := (E1.block w.heap.size (by simp)).trans (heap_alloc_new w _)
  have hBn : w.heap.size < B := by simp at hB; omega
  have e1 : Ext w w1 := ((Below.refl _ w).alloc (Nat.le_refl _) _).trans (Below.mono E1 (by simp))
  obtain ⟨A, hA⟩ : ∃ A, w.heap.size = A := ⟨_, rfl⟩
  rw [hA] at hb1 hBn ⊢
  obtain ⟨c0, c1, c2, c3, f0, f1, f2, f3⟩ := cell_dr hb1
  have hAA := hide hA
  have HB1 := hide hb1
  have HD1 := hide hd
  have HE1 := hide e1
  clear hb1 hd e1 E1 hB hA
  have hw1 : IntKind.i64.wrap (x - y) = x - y := by simp [IntKind.wrap, IntKind.signed, IntKind.bits]; omega
  have hw2 : IntKind.i64.wrap (y - x) = y - x := by simp [IntKind.wrap, IntKind.signed, IntKind.bits]; omega
  go_wp2_with fail
  go_quiet (fail)
  all_goals
    clear hw1 hw2 c0 c1 c2 c3 f0 f1 f2 f3
    go_wp2_with fail
    refine (HA3.out _).mono ?_
    rintro e w2 ⟨rfl, rfl⟩
    go_wp2_with fail
    go_loopw [11, 13] (fun mv i wr => ∃ (k : Nat) (x y : Int), (k : Int) ≤ q ∧ i = .int .i64 k ∧ 0 ≤ x ∧ x ≤ 9 + k ∧ 0 ≤ y ∧ y ≤ 9 + k ∧ mv = .int .i64 (max 1 (max (x - y) (y - x))) ∧ wr.heap[A]? = some (.cells #[.int .i64 1, .int .i64 x, .int .i64 2, .int .i64 y] 25 (0, 0)) ∧ DrawsAt wr B [] (2 * k) ∧ Ext w wr) (fun _ i _ => (q - intOf i).toNat)
    case atStart => exact ⟨0, x, y, by omega, rfl, by omega, by omega, by omega, by omega, rfl, HB1.out, DrawsAt.ext HD1.out (Below.drewN' (Below.refl _ _) _), Below.drewN' HE1.out _⟩
    case round =>
      clear b1 b2 HB1 HD1 HE1 HA1 HA2
      obtain ⟨k, x, y, hk, rfl, hx0, hx1, hy0, hy1, rfl, hb, hd, hext⟩ := hrel
      by_cases hlt : (k : Int) < q
      · have HB := hide hb
        have HD := hide hd
        have HE := hide hext
        clear hb hd hext
        go_wp2_with fail
        refine (new_any [] _ 1 _ (ints_nil _ 0 (by omega)) (by omega) (by simp)).mono ?_
        rintro e w5 ⟨r5, rfl, hr5, E5⟩
        obtain ⟨Br, rfl⟩ := hr5.shape'
        clear hr5
        have E6 : Ext wr (w5.alloc (.cells #[.int .i64 1, .int .i64 2] 3)) := E5.trans ((Below.refl _ w5).alloc (Nat.le_refl _) _)
        have hb6 : (w5.alloc (.cells #[.int .i64 1, .int .i64 2] 3)).heap[A]? = _ := (E6.block A (Array.getElem?_eq_some_iff.1 HB.out).1).trans HB.out
        have hi6 : (w5.alloc (.cells #[.int .i64 1, .int .i64 2] 3)).heap[w5.heap.size]? = _ := heap_alloc_new w5 _
        have hBlt : B < w5.heap.size := Nat.lt_of_lt_of_le HD.out.lt E5.size
        have hpk : Calls Try.prog 16 #[.int .i64 1, .pointer (some ⟨Br, 0, none⟩), .slice (some ⟨w5.heap.size, 0, none⟩) 2 2, .int .u64 0, .slice (some ⟨A, 0, none⟩) 2 2, .pointer (some ⟨B, 0, none⟩)] (w5.alloc (.cells #[.int .i64 1, .int .i64 2] 3)) fun e w' => ∃ z, e = .returned (.tuple #[.int .i64 z, .bool true]) ∧ ByTwo [1, 2] [(1, x), (2, y)] z ∧ DrawsAt w' B [] (2 * k + 2) ∧ (w5.alloc (.cells #[.int .i64 1, .int .i64 2] 3)).grownBy w' (some B) :=
          pickTwo_g _ [1, 2] [(1, x), (2, y)] _ _ _ _ B Br 0 (2 * k) (fun X hX => ints_blk (blk_grown hi6 hX (by omega))) (fun X hX => parts_blk (blk_grown hb6 hX (by omega))) (HD.out.ext E6) (by omega) (by decide) (by decide)
        have HPK := hide hpk
        clear hpk hi6
        go_wp2_with fail
        refine HPK.out.mono ?_
        rintro e w7 ⟨z, rfl, hz, hd7, hg7⟩
        have hb7 := blk_grown hb6 hg7 (by omega)
        have hE7 : Ext w w7 := Below.grown (HE.out.trans E6) hg7 (HE.out.trans E6).size (fun r hr => by have := hAA.out; cases hr; omega)
        have hzc := byTwo_pair hz
        clear hz hg7 hb6
        rcases hzc with ⟨rfl, hle⟩ | ⟨rfl, hle⟩
        · have hbx := set_dr hb7 1 (.int .i64 (x + 1))
          have hbx2 : (w7.setCell ⟨A, 1, none⟩ (.int .i64 (x + 1))).heap[A]? = some (.cells #[.int .i64 1, .int .i64 (x + 1), .int .i64 2, .int .i64 y] 25 (0, 0)) := by simpa using hbx
          obtain ⟨c0, c1, c2, c3, f0, f1, f2, f3⟩ := cell_dr hb7
          obtain ⟨d0, d1, d2, d3, g0, g1, g2, g3⟩ := cell_dr hbx2
          have HBX := hide hbx2
          have HDX := hide (draws_set (o := 1) (v := .int .i64 (x + 1)) hd7 (show B ≠ A by omega))
          have HEX := hide (show Ext w (w7.setCell ⟨A, 1, none⟩ (.int .i64 (x + 1))) from hE7.setCell (by have := hAA.out; show w.heap.size ≤ A; omega) _)
          have hw1 : IntKind.i64.wrap ((x + 1) - y) = (x + 1) - y := by simp [IntKind.wrap, IntKind.signed, IntKind.bits]; omega
          have hw2 : IntKind.i64.wrap (y - (x + 1)) = y - (x + 1) := by simp [IntKind.wrap, IntKind.signed, IntKind.bits]; omega
          have hgap : ¬ max 1 (max (x - y) (y - x)) < max ((x + 1) - y) (y - (x + 1)) := by omega
          obtain ⟨G, hG⟩ : ∃ G, max ((x + 1) - y) (y - (x + 1)) = G := ⟨_, rfl⟩
          obtain ⟨M, hM⟩ : ∃ M, max 1 (max (x - y) (y - x)) = M := ⟨_, rfl⟩
          rw [hG, hM] at hgap
          have HG := hide hG
          clear hbx hbx2 hb7 hd7 hE7 hG
          rw [hM]
          clear hM
          go_wp2_with fail
          go_quiet (fail)
          all_goals
            rw [HG.out]
            go_wp2
            go_roundw
            case rel => exact ⟨k + 1, (x + 1), y, by omega, by go_num, by omega, by omega, by omega, by omega, by rw [HG.out], HBX.out, DrawsAt.ext HDX.out (Below.drewN' (Below.refl _ _) _), Below.drewN' HEX.out _⟩
            case measure => simp [intOf]; omega
        · have hbx := set_dr hb7 3 (.int .i64 (y + 1))
          have hbx2 : (w7.setCell ⟨A, 3, none⟩ (.int .i64 (y + 1))).heap[A]? = some (.cells #[.int .i64 1, .int .i64 x, .int .i64 2, .int .i64 (y + 1)] 25 (0, 0)) := by simpa using hbx
          obtain ⟨c0, c1, c2, c3, f0, f1, f2, f3⟩ := cell_dr hb7
          obtain ⟨d0, d1, d2, d3, g0, g1, g2, g3⟩ := cell_dr hbx2
          have HBX := hide hbx2
          have HDX := hide (draws_set (o := 3) (v := .int .i64 (y + 1)) hd7 (show B ≠ A by omega))
          have HEX := hide (show Ext w (w7.setCell ⟨A, 3, none⟩ (.int .i64 (y + 1))) from hE7.setCell (by have := hAA.out; show w.heap.size ≤ A; omega) _)
          have hw1 : IntKind.i64.wrap (x - (y + 1)) = x - (y + 1) := by simp [IntKind.wrap, IntKind.signed, IntKind.bits]; omega
          have hw2 : IntKind.i64.wrap ((y + 1) - x) = (y + 1) - x := by simp [IntKind.wrap, IntKind.signed, IntKind.bits]; omega
          have hgap : ¬ max 1 (max (x - y) (y - x)) < max (x - (y + 1)) ((y + 1) - x) := by omega
          obtain ⟨G, hG⟩ : ∃ G, max (x - (y + 1)) ((y + 1) - x) = G := ⟨_, rfl⟩
          obtain ⟨M, hM⟩ : ∃ M, max 1 (max (x - y) (y - x)) = M := ⟨_, rfl⟩
          rw [hG, hM] at hgap
          have HG := hide hG
          clear hbx hbx2 hb7 hd7 hE7 hG
          rw [hM]
          clear hM
          go_wp2_with fail
          go_quiet (fail)
          all_goals
            rw [HG.out]
            go_wp2
            go_roundw
            case rel => exact ⟨k + 1, x, (y + 1), by omega, by go_num, by omega, by omega, by omega, by omega, by rw [HG.out], HBX.out, DrawsAt.ext HDX.out (Below.drewN' (Below.refl _ _) _), Below.drewN' HEX.out _⟩
            case measure => simp [intOf]; omega
      · clear hb hd
        go_wp2_with fail
        refine (lives12_any _).mono ?_
        rintro e w9 ⟨rfl, E9⟩
        go_wp2_with fail
        go_ret
        exact ⟨rfl, hext.trans E9⟩
end Go.Proofs.Ytoncfogihiapiaa
