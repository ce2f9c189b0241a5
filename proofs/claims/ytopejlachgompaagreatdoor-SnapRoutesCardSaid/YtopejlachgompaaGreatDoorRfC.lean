
/- ref05.Cmp. -/
import Derived.Deep.CutRange
import Derived.Test.YtopejlachgompaaGreatDoorRfB
namespace Go.Proofs.YtopejlachgompaaGreatDoor
open Go.ChangeShapes Go.WideShapes Go.ChangeAt Go.RowKit Go.Lib Go.Shelf
/-- a block of three numbers -/
def A3 (W : World) (g : Nat) (x0 x1 x2 : Int) : Prop := W.heap[g]? = some (.cells #[.int .i64 x0, .int .i64 x1, .int .i64 x2] 3 (0, 0))
theorem A3.ext {W W' : World} {g : Nat} {x0 x1 x2 : Int} (h : A3 W g x0 x1 x2) (e : Ext W W') : A3 W' g x0 x1 x2 := (e.block _ (Array.getElem?_eq_some_iff.1 h).1).trans h
theorem A3.cells {W : World} {g : Nat} {x0 x1 x2 : Int} (h : A3 W g x0 x1 x2) : W.cell? ⟨g, 0, none⟩ = some (.int .i64 x0) ∧ W.cell? ⟨g, 1, none⟩ = some (.int .i64 x1) ∧ W.cell? ⟨g, 2, none⟩ = some (.int .i64 x2) := by
 unfold A3 at h
 simp only [World.cell?, h]
 exact ⟨rfl, rfl, rfl⟩
theorem A3.set {W : World} {g : Nat} {x0 x1 x2 : Int} (h : A3 W g x0 x1 x2) (z : Int) : A3 (W.setCell ⟨g, 0, none⟩ (.int .i64 z)) g z x1 x2 := ArrB.set h 0 (.int .i64 z)
theorem A3.other {W : World} {g g' : Nat} {x0 x1 x2 : Int} (h : A3 W g x0 x1 x2) (hne : g ≠ g') (v : Value) : A3 (W.setCell ⟨g', 0, none⟩ v) g x0 x1 x2 := (Below.heap_setCell W ⟨g', 0, none⟩ v g hne).trans h
set_option maxRecDepth 100000 in
set_option maxHeartbeats 8000000 in
theorem cmp5_any (mp mq : ByteArray) (ex ey : Bool) (a b : Option Addr) (n c n2 c2 : Nat) (w : World) (hs : mp.size ≤ 9223372036854775807) (hq : mq.size ≤ 9223372036854775807) (hpp : isPath (bl mp) = true) (hpq : isPath (bl mq) = true) :
  Calls Tryz.prog 45 #[.agg #[.string mp, .bool ex, .slice a n c], .agg #[.string mq, .bool ey, .slice b n2 c2]] w fun e w' => e = .returned (.int .i64 (cmp3 (rk3 mp ex n) (rk3 mq ey n2))) ∧ Ext w w' := by
 have H1 := hide (fun X => parts_any mp X hs)
 have H2 := hide (fun X => parts_any mq X hq)
 have hl1 := parts_len hpp
 have hl2 := parts_len hpq
 have e1 : mp.data.toList = bl mp := rfl
 have e2 : mq.data.toList = bl mq := rfl
 rw [e1, hpp] at H1
 rw [e2, hpq] at H2
 have HL1 := hide hl1
 have HL2 := hide hl2
 have hxa : Ext w (w.alloc (.cells #[.string mp, .bool ex, .slice a n c] 78)) := (Below.refl _ w).alloc (Nat.le_refl _) _
 have hb0 := heap_alloc_new w (.cells #[.string mp, .bool ex, .slice a n c] 78)
 have hxb : Ext (w.alloc (.cells #[.string mp, .bool ex, .slice a n c] 78)) ((w.alloc (.cells #[.string mp, .bool ex, .slice a n c] 78)).alloc (.cells #[.string mq, .bool ey, .slice b n2 c2] 78)) := (Below.refl _ _).alloc (Nat.le_refl _) _
 have hb1 := heap_alloc_new (w.alloc (.cells #[.string mp, .bool ex, .slice a n c] 78)) (.cells #[.string mq, .bool ey, .slice b n2 c2] 78)
 have hsz : (w.alloc (.cells #[.string mp, .bool ex, .slice a n c] 78)).heap.size = w.heap.size + 1 := by simp
 rw [hsz] at hb1
 have hb01 := (hxb.block _ (Array.getElem?_eq_some_iff.1 hb0).1).trans hb0
 have hE0 := hxa.trans hxb
 clear hl1 hl2 e1 e2 hs hq hpp hpq hxa hxb hb0 hsz
 go_enter Tryz.func45, Tryz.ntmps45
 go_upto_region 1 with (fail)
 generalize (w.alloc (.cells #[.string mp, .bool ex, .slice a n c] 78)).alloc (.cells #[.string mq, .bool ey, .slice b n2 c2] 78) = W1 at *
 have hcx : ∀ X, Ext W1 X → X.cell? ⟨w.heap.size, 0, none⟩ = some (.string mp) ∧ X.cell? ⟨w.heap.size, 1, none⟩ = some (.bool ex) ∧ X.cell? ⟨w.heap.size, 2, none⟩ = some (.slice a n c) ∧ X.cell? ⟨w.heap.size + 1, 0, none⟩ = some (.string mq) ∧ X.cell? ⟨w.heap.size + 1, 1, none⟩ = some (.bool ey) ∧ X.cell? ⟨w.heap.size + 1, 2, none⟩ = some (.slice b n2 c2) := fun X hX => by
  have g0 := (hX.block _ (Array.getElem?_eq_some_iff.1 hb01).1).trans hb01
  have g1 := (hX.block _ (Array.getElem?_eq_some_iff.1 hb1).1).trans hb1
  simp only [World.cell?, g0, g1]
  exact ⟨rfl, rfl, rfl, rfl, rfl, rfl⟩
 have HCX := hide hcx
 have HE0 := hide hE0
 have hbsz : w.heap.size + 1 < W1.heap.size := (Array.getElem?_eq_some_iff.1 hb1).1
 have HSZ := hide hbsz
 clear hcx hE0 hb01 hb1 hbsz
 obtain ⟨d0, d1, d2, d3, d4, d5⟩ := HCX.out _ (Below.refl _ _)
 go_wp2_with fail
 refine (H1.out _).mono ?_
 rintro e w2 ⟨v1, rfl, hD1, E1⟩
 obtain ⟨D1, hm1, -, ho1⟩ := hD1 (by first | rfl | trivial)
 obtain ⟨x1, y1, rfl⟩ := owns_shape ho1
 have hn1 : ((D1.length : Nat) : Int) = rk1 (bl mp) := by
  rw [← HL1.out]
  have : (D1.map bl).length = (partsL (bl mp)).length := by rw [hm1]
  rw [← this]
  simp
 have HN1 := hide hn1
 have HE1 := hide E1
 clear d0 d1 d2 d3 d4 d5 hm1 ho1 hD1 hn1 E1
 obtain ⟨d0, d1, d2, d3, d4, d5⟩ := HCX.out _ HE1.out
 go_wp2_with fail
 refine (H2.out _).mono ?_
 rintro e w3 ⟨v2, rfl, hD2, E2⟩
 obtain ⟨D2, hm2, -, ho2⟩ := hD2 (by first | rfl | trivial)
 obtain ⟨x2, y2, rfl⟩ := owns_shape ho2
 have hn2 : ((D2.length : Nat) : Int) = rk1 (bl mq) := by
  rw [← HL2.out]
  have : (D2.map bl).length = (partsL (bl mq)).length := by rw [hm2]
  rw [← this]
  simp
 have HN2 := hide hn2
 have HE2 := hide (HE1.out.trans E2)
 clear d0 d1 d2 d3 d4 d5 hm2 ho2 hD2 hn2 E2 H1 H2 HL1 HL2
 obtain ⟨d0, d1, d2, d3, d4, d5⟩ := HCX.out _ HE2.out
 have hxx : Ext w3 (w3.alloc (.cells #[.int .i64 0, .int .i64 D1.length, .int .i64 n] 3)) := (Below.refl _ _).alloc (Nat.le_refl _) _
 have hgx : A3 (w3.alloc (.cells #[.int .i64 0, .int .i64 D1.length, .int .i64 n] 3)) w3.heap.size 0 D1.length n := heap_alloc_new w3 _
 have hsz2 : (w3.alloc (.cells #[.int .i64 0, .int .i64 D1.length, .int .i64 n] 3)).heap.size = w3.heap.size + 1 := by simp
 have h13 : W1.heap.size ≤ w3.heap.size := HE2.out.size
 go_upto_region 4 with (fail)
 generalize w3.alloc (.cells #[.int .i64 0, .int .i64 D1.length, .int .i64 n] 3) = W3 at *
 have HE3 := hide (HE2.out.trans hxx)
 clear d0 d1 d2 d3 d4 d5 hxx
 obtain ⟨d0, d1, d2, d3, d4, d5⟩ := HCX.out _ HE3.out
 have hxy : Ext W3 (W3.alloc (.cells #[.int .i64 0, .int .i64 D2.length, .int .i64 n2] 3)) := (Below.refl _ _).alloc (Nat.le_refl _) _
 have hgy0 : A3 (W3.alloc (.cells #[.int .i64 0, .int .i64 D2.length, .int .i64 n2] 3)) W3.heap.size 0 D2.length n2 := heap_alloc_new _ _
 have hgx2 := hgx.ext hxy
 go_upto_region 5 with (fail)
 generalize W3.alloc (.cells #[.int .i64 0, .int .i64 D2.length, .int .i64 n2] 3) = W4 at *
 rw [hsz2] at hgy0
 (try rw [hsz2])
 generalize w3.heap.size = g at *
 have HGX := hide hgx2
 have HGY := hide hgy0
 have HE4 := hide (HE3.out.trans hxy)
 have HG := hide (show w.heap.size + 1 < g by have := HSZ.out; omega)
 have HG1 := hide h13
 clear hgx2 hgy0 hxy hgx hsz2 d0 d1 d2 d3 d4 d5 h13
 obtain ⟨d0, d1, d2, d3, d4, d5⟩ := HCX.out _ HE4.out
 go_upto_if 37 with (fail)
 clear d0 d1 d2 d3 d4 d5
 go_cut [] from 12 to 65 (fun w' => A3 w' g (rk0 ex) D1.length n ∧ A3 w' (g + 1) 0 D2.length n2 ∧ Ext W1 w')
 case first =>
  cases ex with
  | true =>
   obtain ⟨q0, q1, q2⟩ := HGX.out.cells
   have z0 := ArrB.frozen HGX.out 0
   go_wp2
   go_meet
   case rel => exact ⟨HGX.out.set 1, HGY.out.other (by omega) _, Below.setCell (p := ⟨g, 0, none⟩) HE4.out HG1.out _⟩
  | false =>
   go_wp2
   go_meet
   case rel => exact ⟨HGX.out, HGY.out, HE4.out⟩
 case rest =>
  obtain ⟨hgx, hgy, he⟩ := hcut
  have HGX2 := hide hgx
  have HGY2 := hide hgy
  have HE5 := hide he
  clear HGX HGY HE4 hgx hgy he
  obtain ⟨d0, d1, d2, d3, d4, d5⟩ := HCX.out _ HE5.out
  go_upto_if 41 with (fail)
  generalize wc = W5 at *
  go_cut [] from 12 to 65 (fun w' => A3 w' g (rk0 ex) D1.length n ∧ A3 w' (g + 1) (rk0 ey) D2.length n2 ∧ Ext W1 w')
  case first =>
   clear d0 d1 d2 d3 d4 d5
   cases ey with
   | true =>
    obtain ⟨q0, q1, q2⟩ := HGY2.out.cells
    have z0 := ArrB.frozen HGY2.out 0
    go_wp2
    go_meet
    case rel => exact ⟨HGX2.out.other (by omega) _, HGY2.out.set 1, Below.setCell (p := ⟨g + 1, 0, none⟩) HE5.out (show W1.heap.size ≤ g + 1 by have := HG1.out; omega) _⟩
   | false =>
    go_wp2
    go_meet
    case rel => exact ⟨HGX2.out, HGY2.out, HE5.out⟩
  case rest =>
   clear d0 d1 d2 d3 d4 d5
   obtain ⟨hgx, hgy, he⟩ := hcut
   have HGX := hide hgx
   have HGY := hide hgy
   have HE6 := hide (HE0.out.trans he)
   have hres : cmp3 (rk3 mp ex n) (rk3 mq ey n2) = cmp3 (rk0 ex, (D1.length : Int), (n : Int)) (rk0 ey, (D2.length : Int), (n2 : Int)) := by
    rw [HN1.out, HN2.out]
    rfl
   have HRES := hide hres
   clear hgx hgy he hres HGX2 HGY2 HE5 HN1 HN2
   generalize rk0 ex = X0 at *
   generalize rk0 ey = Y0 at *
   generalize (D1.length : Int) = X1 at *
   generalize (D2.length : Int) = Y1 at *
   generalize (n : Int) = X2 at *
   generalize (n2 : Int) = Y2 at *
   generalize wc = W6 at *
   go_wp2_with fail
   go_loopw [11] (fun v11 wr => ∃ k : Nat, k ≤ 3 ∧ v11 = .int .i64 k ∧ (0 < k → X0 = Y0) ∧ (1 < k → X1 = Y1) ∧ (2 < k → X2 = Y2) ∧ Ext W6 wr) (fun i _ => 3 - (intOf i).toNat)
   case atStart => exact ⟨0, by omega, rfl, fun h => by omega, fun h => by omega, fun h => by omega, Below.refl _ _⟩
   case round =>
    obtain ⟨k, hk, rfl, h0, h1, h2, hxt⟩ := hrel
    obtain ⟨p0, p1, p2⟩ := (HGX.out.ext hxt).cells
    obtain ⟨q0, q1, q2⟩ := (HGY.out.ext hxt).cells
    have HXT := hide hxt
    have HEN := hide (HE6.out.trans hxt)
    clear hxt
    rcases (by omega : k = 0 ∨ k = 1 ∨ k = 2 ∨ k = 3) with rfl | rfl | rfl | rfl
    ·skip
     have hz0 : ¬ (3 : Int) ≤ 0 := by omega
     by_cases hgt : X0 > Y0
     ·have hr : cmp3 (X0, X1, X2) (Y0, Y1, Y2) = -1 := by
       unfold cmp3
       simp only
       repeat' (first | omega | split)
      have HR := hide (HRES.out.trans hr)
      clear hr h0 h1 h2 
      go_wp2_with fail
      go_quiet (fail)
      rename_i nq
      have hEn : Ext wr (wr.drewN nq) := Below.drewN' (Below.refl _ _) _
      clear p0 p1 p2 q0 q1 q2
      generalize wr.drewN nq = w9 at *
      go_wp2
      go_ret
      exact ⟨ret_int HR.out.symm, HEN.out.trans hEn⟩
     ·by_cases hlt : X0 < Y0
      ·have hr : cmp3 (X0, X1, X2) (Y0, Y1, Y2) = 1 := by
        unfold cmp3
        simp only
        repeat' (first | omega | split)
       have HR := hide (HRES.out.trans hr)
       clear hr h0 h1 h2 
       go_wp2_with fail
       go_quiet (fail)
       rename_i nq
       have hEn : Ext wr (wr.drewN nq) := Below.drewN' (Below.refl _ _) _
       have HEn := hide hEn
       clear p0 p1 p2 q0 q1 q2 hEn
       generalize wr.drewN nq = w9 at *
       obtain ⟨p0, p1, p2⟩ := (HGX.out.ext (HXT.out.trans HEn.out)).cells
       obtain ⟨q0, q1, q2⟩ := (HGY.out.ext (HXT.out.trans HEn.out)).cells
       go_wp2_with fail
       go_quiet (fail)
       go_wp2
       go_ret
       exact ⟨ret_int HR.out.symm, HEN.out.trans (HEn.out.trans (Below.drewN' (Below.refl _ _) _))⟩
      ·have heq : X0 = Y0 := by omega
       have HEQ := hide heq
       have H0 := hide h0
       have H1 := hide h1
       clear h0 h1 h2 heq 
       go_wp2_with fail
       go_quiet (fail)
       rename_i nq
       have hEn : Ext wr (wr.drewN nq) := Below.drewN' (Below.refl _ _) _
       have HEn := hide hEn
       clear p0 p1 p2 q0 q1 q2 hEn
       generalize wr.drewN nq = w9 at *
       obtain ⟨p0, p1, p2⟩ := (HGX.out.ext (HXT.out.trans HEn.out)).cells
       obtain ⟨q0, q1, q2⟩ := (HGY.out.ext (HXT.out.trans HEn.out)).cells
       go_wp2_with fail
       go_quiet (fail)
       go_wp2
       go_roundw
       case rel => exact ⟨1, by omega, by go_num, fun _ => HEQ.out, fun h => absurd h (by omega), fun h => absurd h (by omega), Below.drewN' (HXT.out.trans HEn.out) _⟩
       case measure => simp [intOf] <;> omega
    ·skip
     have e0 := h0 (by omega)
     have hz0 : ¬ (3 : Int) ≤ 1 := by omega
     by_cases hgt : X1 > Y1
     ·have hr : cmp3 (X0, X1, X2) (Y0, Y1, Y2) = -1 := by
       unfold cmp3
       simp only
       repeat' (first | omega | split)
      have HR := hide (HRES.out.trans hr)
      clear hr h0 h1 h2 e0
      go_wp2_with fail
      go_quiet (fail)
      rename_i nq
      have hEn : Ext wr (wr.drewN nq) := Below.drewN' (Below.refl _ _) _
      clear p0 p1 p2 q0 q1 q2
      generalize wr.drewN nq = w9 at *
      go_wp2
      go_ret
      exact ⟨ret_int HR.out.symm, HEN.out.trans hEn⟩
     ·by_cases hlt : X1 < Y1
      ·have hr : cmp3 (X0, X1, X2) (Y0, Y1, Y2) = 1 := by
        unfold cmp3
        simp only
        repeat' (first | omega | split)
       have HR := hide (HRES.out.trans hr)
       clear hr h0 h1 h2 e0
       go_wp2_with fail
       go_quiet (fail)
       rename_i nq
       have hEn : Ext wr (wr.drewN nq) := Below.drewN' (Below.refl _ _) _
       have HEn := hide hEn
       clear p0 p1 p2 q0 q1 q2 hEn
       generalize wr.drewN nq = w9 at *
       obtain ⟨p0, p1, p2⟩ := (HGX.out.ext (HXT.out.trans HEn.out)).cells
       obtain ⟨q0, q1, q2⟩ := (HGY.out.ext (HXT.out.trans HEn.out)).cells
       go_wp2_with fail
       go_quiet (fail)
       go_wp2
       go_ret
       exact ⟨ret_int HR.out.symm, HEN.out.trans (HEn.out.trans (Below.drewN' (Below.refl _ _) _))⟩
      ·have heq : X1 = Y1 := by omega
       have HEQ := hide heq
       have H0 := hide h0
       have H1 := hide h1
       clear h0 h1 h2 heq e0
       go_wp2_with fail
       go_quiet (fail)
       rename_i nq
       have hEn : Ext wr (wr.drewN nq) := Below.drewN' (Below.refl _ _) _
       have HEn := hide hEn
       clear p0 p1 p2 q0 q1 q2 hEn
       generalize wr.drewN nq = w9 at *
       obtain ⟨p0, p1, p2⟩ := (HGX.out.ext (HXT.out.trans HEn.out)).cells
       obtain ⟨q0, q1, q2⟩ := (HGY.out.ext (HXT.out.trans HEn.out)).cells
       go_wp2_with fail
       go_quiet (fail)
       go_wp2
       go_roundw
       case rel => exact ⟨2, by omega, by go_num, fun _ => H0.out (by omega), fun _ => HEQ.out, fun h => absurd h (by omega), Below.drewN' (HXT.out.trans HEn.out) _⟩
       case measure => simp [intOf] <;> omega
    ·skip
     have e0 := h0 (by omega)
     have e1 := h1 (by omega)
     have hz0 : ¬ (3 : Int) ≤ 2 := by omega
     by_cases hgt : X2 > Y2
     ·have hr : cmp3 (X0, X1, X2) (Y0, Y1, Y2) = -1 := by
       unfold cmp3
       simp only
       repeat' (first | omega | split)
      have HR := hide (HRES.out.trans hr)
      clear hr h0 h1 h2 e0 e1
      go_wp2_with fail
      go_quiet (fail)
      rename_i nq
      have hEn : Ext wr (wr.drewN nq) := Below.drewN' (Below.refl _ _) _
      clear p0 p1 p2 q0 q1 q2
      generalize wr.drewN nq = w9 at *
      go_wp2
      go_ret
      exact ⟨ret_int HR.out.symm, HEN.out.trans hEn⟩
     ·by_cases hlt : X2 < Y2
      ·have hr : cmp3 (X0, X1, X2) (Y0, Y1, Y2) = 1 := by
        unfold cmp3
        simp only
        repeat' (first | omega | split)
       have HR := hide (HRES.out.trans hr)
       clear hr h0 h1 h2 e0 e1
       go_wp2_with fail
       go_quiet (fail)
       rename_i nq
       have hEn : Ext wr (wr.drewN nq) := Below.drewN' (Below.refl _ _) _
       have HEn := hide hEn
       clear p0 p1 p2 q0 q1 q2 hEn
       generalize wr.drewN nq = w9 at *
       obtain ⟨p0, p1, p2⟩ := (HGX.out.ext (HXT.out.trans HEn.out)).cells
       obtain ⟨q0, q1, q2⟩ := (HGY.out.ext (HXT.out.trans HEn.out)).cells
       go_wp2_with fail
       go_quiet (fail)
       go_wp2
       go_ret
       exact ⟨ret_int HR.out.symm, HEN.out.trans (HEn.out.trans (Below.drewN' (Below.refl _ _) _))⟩
      ·have heq : X2 = Y2 := by omega
       have HEQ := hide heq
       have H0 := hide h0
       have H1 := hide h1
       clear h0 h1 h2 heq e0 e1
       go_wp2_with fail
       go_quiet (fail)
       rename_i nq
       have hEn : Ext wr (wr.drewN nq) := Below.drewN' (Below.refl _ _) _
       have HEn := hide hEn
       clear p0 p1 p2 q0 q1 q2 hEn
       generalize wr.drewN nq = w9 at *
       obtain ⟨p0, p1, p2⟩ := (HGX.out.ext (HXT.out.trans HEn.out)).cells
       obtain ⟨q0, q1, q2⟩ := (HGY.out.ext (HXT.out.trans HEn.out)).cells
       go_wp2_with fail
       go_quiet (fail)
       go_wp2
       go_roundw
       case rel => exact ⟨3, by omega, by go_num, fun _ => H0.out (by omega), fun _ => H1.out (by omega), fun _ => HEQ.out, Below.drewN' (HXT.out.trans HEn.out) _⟩
       case measure => simp [intOf] <;> omega
    ·have e0 := h0 (by omega)
     have e1 := h1 (by omega)
     have e2 := h2 (by omega)
     have hr : cmp3 (X0, X1, X2) (Y0, Y1, Y2) = 0 := by
      unfold cmp3
      simp only
      repeat' (first | omega | split)
     have HR := hide (HRES.out.trans hr)
     clear hr h0 h1 h2 e0 e1 e2 p0 p1 p2 q0 q1 q2
     go_wp2
     go_ret
     exact ⟨ret_int HR.out.symm, HEN.out⟩
end Go.Proofs.YtopejlachgompaaGreatDoor
