/- Merged texts (Zhr, CfA). -/
import Derived.Test.YtmpciohmljpncaaGreatDoorZrl
import Derived.Deep.CutBlock
import Derived.Deep.RegionHeld3
import Derived.Test.YtmpciohmljpncaaGreatDoorZx
/- Merged texts (HasA). -/
namespace Go.Proofs.YtmpciohmljpncaaGreatDoor
open Go.ChangeShapes Go.WideShapes Go.ChangeAt Go.RowKit Go.Lib Go.Shelf
theorem contains_succ (l : List Int) (n : Int) (k : Nat) (h : k < l.length) : (l.take (k+1)).contains n = ((l.take k).contains n || l[k] == n) := by
 rw [Bool.eq_iff_iff]
 simp only [List.contains_iff_mem, take_snoc l k h, List.mem_append, List.mem_singleton, Bool.or_eq_true, beq_iff_eq]
 exact or_congr Iff.rfl eq_comm
set_option maxRecDepth 100000 in
set_option maxHeartbeats 2000000 in
theorem has_any (l : List Int) (n : Int) (v : Value) (w : World) (hs : Ints w v l) :
  Calls Tryz.prog 28 #[v, .int .i64 n] w fun e w' => e = .returned (.bool (l.contains n)) ∧ w = w' := by
 obtain ⟨hl, a, cap, rfl⟩ := hs.shape
 have HC := hide hs; clear hs
 go_enter Tryz.func28, Tryz.ntmps28
 go_wp2
 go_loopw [5] (fun i wr => ∃ k : Nat, k ≤ l.length ∧ i = .int .i64 k ∧ (l.take k).contains n = false ∧ wr = w)
  (fun i _ => l.length - (intOf i).toNat)
 case atStart => exact ⟨0, Nat.zero_le _, rfl, by simp, rfl⟩
 case round =>
  obtain ⟨k, hk, rfl, hno, rfl⟩ := hrel
  by_cases hlt : k < l.length
  ·obtain ⟨b, off, rfl, hbb, hc⟩ := ints_at HC.out k hlt
   have hcs := contains_succ l n k hlt
   have hm : l[k] ∈ l := List.getElem_mem hlt
   obtain ⟨x, hx⟩ : ∃ x, l[k] = x := ⟨_, rfl⟩
   rw [hx] at hc hcs hm
   rw [hno, Bool.false_or] at hcs
   clear hx hno
   by_cases he : x = n
   ·subst he
    have hin : l.contains x = true := by simpa using hm
    have HIN := hide hin
    clear hin hm hcs
    go_wp2
    go_ret
    exact ⟨ret_bool HIN.out.symm, rfl⟩
   ·have hne : (x == n) = false := by simp [he]
    rw [hne] at hcs
    have HCS := hide hcs
    clear hcs he hm
    go_wp2
    go_roundw
    case rel => exact ⟨k + 1, hlt, by go_num, HCS.out, trivial⟩
    case measure => simp [intOf]; omega
  ·obtain rfl : k = l.length := by omega
   rw [List.take_length] at hno
   have HN := hide hno; clear hno
   go_wp2
   go_ret
   exact ⟨ret_bool HN.out.symm, rfl⟩
end Go.Proofs.YtmpciohmljpncaaGreatDoor
namespace Go.Proofs.YtmpciohmljpncaaGreatDoor
open Go.ChangeShapes Go.WideShapes Go.ChangeAt Go.RowKit Go.Lib Go.Shelf
theorem pk_at {L : List Int} {k : Nat} (h : k < L.length) : (pk L k : Int) = around L[k] 1000000 := by
 have hb := around_bd L[k] 1000000 (by omega)
 unfold pk
 rw [List.getElem?_eq_getElem h]
 show ((around L[k] 1000000).toNat : Int) = _
 omega
theorem pk_out {L : List Int} {k : Nat} (h : L.length ≤ k) : pk L k = 0 := by
 unfold pk
 rw [List.getElem?_eq_none h]
set_option maxRecDepth 100000 in
set_option maxHeartbeats 2000000 in
theorem pick_any (L : List Int) (k : Nat) (v : Value) (w : World) (hs : Ints w v L) (hL : ∀ x ∈ L, I64 x) :
  Calls Tryz.prog 8 #[v, .int .i64 k] w fun e w' => e = .returned (.int .i64 (pk L k)) ∧ w = w' := by
 obtain ⟨hl, a, cap, rfl⟩ := hs.shape
 have HC := hide hs
 clear hs
 by_cases hlt : k < L.length
 ·have hp := pk_at hlt
  obtain ⟨b, off, rfl, hbb, hc⟩ := ints_at HC.out k hlt
  have hx := hL L[k] (List.getElem_mem hlt)
  obtain ⟨x, hxe⟩ : ∃ x, L[k] = x := ⟨_, rfl⟩
  rw [hxe] at hp hc hx
  have har := around_any x 1000000 w hx (by omega)
  rw [← hp] at har
  have HAR := hide har
  have hge : ¬ (k : Int) ≥ L.length := by omega
  have hltz : (k : Int) < L.length := by omega
  clear har hp hxe
  go_enter Tryz.func8, Tryz.ntmps8
  go_wp2_with fail
  refine HAR.out.mono ?_
  rintro e w1 ⟨rfl, rfl⟩
  go_wp2
  go_ret
  exact ⟨rfl, rfl⟩
 ·have hge : (k : Int) ≥ L.length := by omega
  rw [pk_out (by omega)]
  go_enter Tryz.func8, Tryz.ntmps8
  go_wp2
  go_ret
  exact ⟨rfl, rfl⟩
theorem Tryz.watchDesc0 : (Tryz.prog.underlying 28).map TypeDesc.isRow = some true := by kernel_rfl
theorem Tryz.watchDesc : ∃ d, Tryz.prog.underlying 28 = some d ∧ d.isRow = true := by
 have h := Tryz.watchDesc0
 revert h
 cases Tryz.prog.underlying 28 with
 | none => intro h; cases h
 | some d => intro h; exact ⟨d, rfl, by simpa using h⟩
theorem Tryz.watchSize : (Tryz.prog.info? 28).map (·.size) = some 7 := by kernel_rfl
theorem shareN_at (d : Nat) (h : d < 5) : ([50, 100, 34, 0, 20] : List Int)[d]? = some (shareN d) := by
 rcases (by omega : d = 0 ∨ d = 1 ∨ d = 2 ∨ d = 3 ∨ d = 4) with rfl | rfl | rfl | rfl | rfl <;> rfl
theorem topN_at (d : Nat) (h : d < 4) : ([1, 2, 8, 3] : List Int)[d]? = some (topN d) := by
 rcases (by omega : d = 0 ∨ d = 1 ∨ d = 2 ∨ d = 3) with rfl | rfl | rfl | rfl <;> rfl
theorem heap_third (w : World) (a b c : Obj) : (((w.alloc a).alloc b).alloc c).heap[w.heap.size + 1 + 1]? = some c := by
 show (((w.heap.push a).push b).push c)[w.heap.size + 1 + 1]? = _
 rw [Array.getElem?_push]
 simp
theorem heap_first (w : World) (a b c : Obj) : (((w.alloc a).alloc b).alloc c).heap[w.heap.size]? = some a := by
 show (((w.heap.push a).push b).push c)[w.heap.size]? = _
 rw [Array.getElem?_push, Array.getElem?_push, Array.getElem?_push]
 simp
 omega
set_option maxRecDepth 100000 in
set_option maxHeartbeats 8000000 in
theorem watch_any (n : Nat) (w : World) (hn : n < 1000000) :
  Calls Tryz.prog 9 #[.int .i64 n] w fun e w' => e = .returned (.agg #[.int .i64 (1 + (n : Int) % 4), .int .i64 (5 + (n : Int) / 4 % 20), .int .i64 ((n : Int) / 80 % 3 * 8), .int .i64 ((n : Int) / 240 % 3 * 10), .int .i64 (shareN (n / 720 % 5)), .int .i64 (1 + (n : Int) / 3600 % 20), .int .i64 ((1 + (n : Int) / 3600 % 20) * topN (n / 72000 % 4))]) ∧ Ext w w' := by
 have har := fun X => around_any (n : Int) 10000000 X ⟨by omega, by omega⟩ (by omega)
 have hae : around (n : Int) 10000000 = n := by unfold around; rw [if_neg (by omega)]; omega
 simp only [hae] at har
 have HAR := hide har
 have hs := shareN_at (n / 720 % 5) (by omega)
 have ht := topN_at (n / 72000 % 4) (by omega)
 have HS := hide hs
 have HT := hide ht
 have hnz : (n : Int) < 1000000 := by omega
 clear har hae hs ht
 go_enter Tryz.func9, Tryz.ntmps9
 go_wp2_with fail
 refine (HAR.out _).mono ?_
 rintro e w1 ⟨rfl, rfl⟩
 go_upto_region 2 with (fail)
 go_cut [4] from 7 to 33 (fun s4 w' => ∃ b4, s4 = .pointer (some ⟨b4, 0, none⟩) ∧ Ext w w' ∧ w.heap.size < b4 ∧ w'.heap[b4]? = some (.cells #[.int .i64 (1 + (n : Int) % 4), .int .i64 (5 + (n : Int) / 4 % 20), .int .i64 ((n : Int) / 80 % 3 * 8), .int .i64 ((n : Int) / 240 % 3 * 10), .int .i64 (shareN (n / 720 % 5)), .int .i64 (1 + (n : Int) / 3600 % 20), .int .i64 0] 28 (0, 0)) ∧ w'.heap[w.heap.size]? = some (.cells #[.int .i64 0, .int .i64 0, .int .i64 0, .int .i64 0, .int .i64 0, .int .i64 0, .int .i64 0] 28 (0, 0)))
 case first =>
  obtain ⟨d, hd⟩ : ∃ d, n / 720 % 5 = d := ⟨_, rfl⟩
  have hdz : (n : Int) / 720 % 5 = d := by omega
  have hd5 : d < 5 := by omega
  have HD := hide hd
  clear hd HS HT
  rcases (by omega : d = 0 ∨ d = 1 ∨ d = 2 ∨ d = 3 ∨ d = 4) with rfl | rfl | rfl | rfl | rfl
  all_goals
   go_wp2
   go_meet
   case rel => exact ⟨w.heap.size + 1 + 1, rfl, (((Below.refl _ w).alloc (Nat.le_refl _) _).alloc (by simp) _).alloc (by simp; omega) _, by omega, by rw [HD.out]; exact heap_third _ _ _ _, heap_first _ _ _ _⟩
 case rest =>
  obtain ⟨b4, rfl, hE, hlt4, hb4, hb0⟩ := hcut
  have c5 : wc.cell? ⟨b4, 5, none⟩ = some (.int .i64 (1 + (n : Int) / 3600 % 20)) := ArrB.cell hb4 5 _ rfl
  have c6 : wc.cell? ⟨b4, 6, none⟩ = some (.int .i64 0) := ArrB.cell hb4 6 _ rfl
  have z6 := ArrB.frozen hb4 6
  have hl4 := (Array.getElem?_eq_some_iff.1 hb4).1
  have HB4 := hide hb4
  have HB0 := hide hb0
  have HE := hide hE
  obtain ⟨x5, hx5⟩ : ∃ x, 1 + (n : Int) / 3600 % 20 = x := ⟨_, rfl⟩
  have hx5b : 1 ≤ x5 ∧ x5 ≤ 20 := by omega
  have HX5 := hide hx5
  rw [hx5] at c5
  obtain ⟨hx51, hx52⟩ := hx5b
  have hc2 : ∀ v o, ((wc.setCell ⟨b4, 6, none⟩ v).alloc o).drew.cell? ⟨b4, 5, none⟩ = some (.int .i64 x5) := fun v o => by
   have hs := ArrB.set hb4 6 v
   have hl := (Array.getElem?_eq_some_iff.1 hs).1
   exact ((((Below.refl _ (wc.setCell ⟨b4, 6, none⟩ v)).alloc (Nat.le_refl _) o).drew).cell (p := ⟨b4, 5, none⟩) hl).trans (ArrB.cell hs 5 _ (by rw [← hx5]; rfl))
  have HC2 := hide hc2
  clear HS HT hb4 hb0 hE hx5 hc2
  have hw9 : ∀ z : Int, (((wc.setCell ⟨b4, 6, none⟩ (.int .i64 z)).alloc (.cells #[.int .i64 1, .int .i64 2, .int .i64 8, .int .i64 3] 3)).drew).heap[b4]? = some (.cells #[.int .i64 (1 + (n : Int) % 4), .int .i64 (5 + (n : Int) / 4 % 20), .int .i64 ((n : Int) / 80 % 3 * 8), .int .i64 ((n : Int) / 240 % 3 * 10), .int .i64 (shareN (n / 720 % 5)), .int .i64 x5, .int .i64 z] 28 (0, 0)) ∧
    (((wc.setCell ⟨b4, 6, none⟩ (.int .i64 z)).alloc (.cells #[.int .i64 1, .int .i64 2, .int .i64 8, .int .i64 3] 3)).drew).heap[w.heap.size]? = some (.cells #[.int .i64 0, .int .i64 0, .int .i64 0, .int .i64 0, .int .i64 0, .int .i64 0, .int .i64 0] 28 (0, 0)) ∧
    Ext w (((wc.setCell ⟨b4, 6, none⟩ (.int .i64 z)).alloc (.cells #[.int .i64 1, .int .i64 2, .int .i64 8, .int .i64 3] 3)).drew) := fun z => by
   have hs := ArrB.set HB4.out 6 (.int .i64 z)
   have hl := (Array.getElem?_eq_some_iff.1 hs).1
   have h0 := (Below.heap_setCell wc ⟨b4, 6, none⟩ (.int .i64 z) w.heap.size (by show w.heap.size ≠ b4; omega)).trans HB0.out
   have hl0 := (Array.getElem?_eq_some_iff.1 h0).1
   have hE2 : Ext (wc.setCell ⟨b4, 6, none⟩ (.int .i64 z)) (((wc.setCell ⟨b4, 6, none⟩ (.int .i64 z)).alloc (.cells #[.int .i64 1, .int .i64 2, .int .i64 8, .int .i64 3] 3)).drew) := ((Below.refl _ _).alloc (Nat.le_refl _) _).drew
   have hk := Keeps.of_set (X := fun g => g = b4) wc b4 6 (.int .i64 z) rfl
   refine ⟨((hE2.block b4 hl).trans hs).trans (by rw [← HX5.out]; rfl), (hE2.block _ hl0).trans h0, (Keeps.ext HE.out hk (fun g hg => by omega)).trans hE2⟩
  have HW9 := hide hw9
  obtain ⟨dd, hd1, hd2⟩ := Tryz.watchDesc
  clear hw9
  rcases (by omega : ((n : Int) / 72000 % 4 = 0 ∧ n / 72000 % 4 = 0) ∨ ((n : Int) / 72000 % 4 = 1 ∧ n / 72000 % 4 = 1) ∨ ((n : Int) / 72000 % 4 = 2 ∧ n / 72000 % 4 = 2) ∨ ((n : Int) / 72000 % 4 = 3 ∧ n / 72000 % 4 = 3)) with ⟨hq, hd⟩ | ⟨hq, hd⟩ | ⟨hq, hd⟩ | ⟨hq, hd⟩
  ·have td1 : (n : Int).tdiv 72000 = (n : Int) / 72000 := Int.tdiv_eq_ediv_of_nonneg (by omega)
   have td2 := (Int.tmod_eq_emod_of_nonneg (a := (n : Int) / 72000) (b := 4) (by omega)).trans hq
   have HD := hide hd
   have tw1 : IntKind.i64.wrap ((n : Int) / 72000) = (n : Int) / 72000 := IntWalk.i64_in _ (by omega)
   have tw2 : IntKind.i64.wrap x5 = x5 := IntWalk.i64_in _ (by omega)
   clear hq hd
   go_upto_region 3 with (fail)
   have hc : ∀ X, Ext wc.drew X → X.cell? ⟨b4, 5, none⟩ = some (.int .i64 x5) := fun X hX => (hX.cell (p := ⟨b4, 5, none⟩) hl4).trans c5
   have HC := hide hc
   clear hc
   refine wp_region_held_drew (S := fun w' => w'.cell? ⟨b4, 5, none⟩ = some (.int .i64 x5)) (by kernel_rfl) (HC.out _ (Below.refl _ _)) (fun hHeld => ?_)
   refine wpAnyH_take (i := 0) (v := (.pointer (some ⟨b4, 5, none⟩))) rfl (by kernel_rfl) (by kernel_rfl) (by kernel_rfl) (fun _ _ _ h => h) (Or.inl ⟨by rfl, ?_⟩) hHeld ?_
   ·intro w hSw; go_simp
   simp only [Act.put, List.setIfInBounds_toArray]
   refine wpAnyH_take (i := 1) (v := (.int .i64 x5)) rfl (by kernel_rfl) (by kernel_rfl) (by kernel_rfl) (fun _ _ _ h => h) (Or.inl ⟨by rfl, ?_⟩) hHeld ?_
   ·intro w hSw; go_simp
   simp only [Act.put]
   refine wpAnyH_take (i := 3) (v := (.int .i64 (n : Int))) rfl (by kernel_rfl) (by kernel_rfl) (by kernel_rfl) (fun _ _ _ h => h) (Or.inl ⟨by rfl, ?_⟩) hHeld ?_
   ·intro w hSw; go_simp
   simp only [Act.put]
   refine wpAnyH_take (i := 4) (v := (.int .i64 ((n : Int) / 72000))) rfl (by kernel_rfl) (by kernel_rfl) (by kernel_rfl) (fun _ _ _ h => h) (Or.inl ⟨by rfl, ?_⟩) hHeld ?_
   ·intro w hSw; go_simp
   simp only [Act.put]
   refine wpAnyH_take (i := 5) (v := (.int .i64 0)) rfl (by kernel_rfl) (by kernel_rfl) (by kernel_rfl) (fun _ _ _ h => h) (Or.inl ⟨by rfl, ?_⟩) hHeld ?_
   ·intro w hSw; go_simp
   simp only [Act.put]
   refine wpAnyH_ready (rs := [2]) (by kernel_rfl) (by simp) ?_
   refine AllReadyH.cons rfl (fun K hK => ?_) AllReadyH.nil
   go_simp
   refine hK.out _ _ ?_ (fun hHeld => ?_)
   ·(try dsimp only); (first | exact HC.out _ (Below.refl _ _) | exact HC.out _ ((Below.refl _ _).alloc (Nat.le_refl _) _) | exact HC2.out _ _)
   clear hK K
   refine wpAnyH_ready (rs := [6]) (by kernel_rfl) (by simp) ?_
   refine AllReadyH.cons rfl (fun K hK => ?_) AllReadyH.nil
   go_simp
   refine hK.out _ _ ?_ (fun hHeld => ?_)
   ·(try dsimp only); (first | exact HC.out _ (Below.refl _ _) | exact HC.out _ ((Below.refl _ _).alloc (Nat.le_refl _) _) | exact HC2.out _ _)
   clear hK K
   refine wpAnyH_ready (rs := [7]) (by kernel_rfl) (by simp) ?_
   refine AllReadyH.cons rfl (fun K hK => ?_) AllReadyH.nil
   go_simp
   refine hK.out _ _ ?_ (fun hHeld => ?_)
   ·(try dsimp only); (first | exact HC.out _ (Below.refl _ _) | exact HC.out _ ((Below.refl _ _).alloc (Nat.le_refl _) _) | exact HC2.out _ _)
   clear hK K
   refine wpAnyH_ready (rs := [8]) (by kernel_rfl) (by simp) ?_
   refine AllReadyH.cons rfl (fun K hK => ?_) AllReadyH.nil
   go_simp
   refine hK.out _ _ ?_ (fun hHeld => ?_)
   ·(try dsimp only); (first | exact HC.out _ (Below.refl _ _) | exact HC.out _ ((Below.refl _ _).alloc (Nat.le_refl _) _) | exact HC2.out _ _)
   clear hK K
   refine wpAnyH_ready (rs := [9]) (by kernel_rfl) (by simp) ?_
   refine AllReadyH.cons rfl (fun K hK => ?_) AllReadyH.nil
   go_simp
   refine hK.out _ _ ?_ (fun hHeld => ?_)
   ·(try dsimp only); (first | exact HC.out _ (Below.refl _ _) | exact HC.out _ ((Below.refl _ _).alloc (Nat.le_refl _) _) | exact HC2.out _ _)
   clear hK K
   refine wpAnyH_ready (rs := [10]) (by kernel_rfl) (by simp) ?_
   refine AllReadyH.cons rfl (fun K hK => ?_) AllReadyH.nil
   go_simp
   refine hK.out _ _ ?_ (fun hHeld => ?_)
   ·(try dsimp only); (first | exact HC.out _ (Below.refl _ _) | exact HC.out _ ((Below.refl _ _).alloc (Nat.le_refl _) _) | exact HC2.out _ _)
   clear hK K
   refine wpAnyH_done (by kernel_rfl) ?_ _
   obtain ⟨g4, g0, gE⟩ := HW9.out x5
   generalize ((wc.setCell ⟨b4, 6, none⟩ (.int .i64 x5)).alloc (.cells #[.int .i64 1, .int .i64 2, .int .i64 8, .int .i64 3] 3)).drew = W9 at *
   go_upto_region 4 with (fail)
   refine wp_region_lit ?_
   refine wpList_load_mid rfl 28 (.tmp 4) rfl b4 0 rfl [.int .i64 (1 + (n : Int) % 4), .int .i64 (5 + (n : Int) / 4 % 20), .int .i64 ((n : Int) / 80 % 3 * 8), .int .i64 ((n : Int) / 240 % 3 * 10), .int .i64 (shareN (n / 720 % 5)), .int .i64 x5, .int .i64 x5] dd (fun j v hv => by rw [Nat.zero_add]; exact ArrB.cell g4 j v (by simpa using hv)) hd1 hd2 Tryz.watchSize ?_
   have hth : W9.there w.heap.size 0 7 := fun j hj => by
    rw [Nat.zero_add]
    refine ⟨?_, by simp [World.frozen?, g0]⟩
    simp only [World.cell?, g0]
    simp [hj]
   refine wpList_store_mid rfl 28 (.tmp 2) (.tmp 43) rfl w.heap.size 0 #[.int .i64 (1 + (n : Int) % 4), .int .i64 (5 + (n : Int) / 4 % 20), .int .i64 ((n : Int) / 80 % 3 * 8), .int .i64 ((n : Int) / 240 % 3 * 10), .int .i64 (shareN (n / 720 % 5)), .int .i64 x5, .int .i64 x5] rfl rfl hth Tryz.watchSize (by simp [Value.oneCell']) ?_
   refine wpList_nil ?_
   have hrs := World.rangeAt_setCells_same W9 w.heap.size 0 [.int .i64 (1 + (n : Int) % 4), .int .i64 (5 + (n : Int) / 4 % 20), .int .i64 ((n : Int) / 80 % 3 * 8), .int .i64 ((n : Int) / 240 % 3 * 10), .int .i64 (shareN (n / 720 % 5)), .int .i64 x5, .int .i64 x5] hth
   have hk5 := keeps_setCells w.heap.size [.int .i64 (1 + (n : Int) % 4), .int .i64 (5 + (n : Int) / 4 % 20), .int .i64 ((n : Int) / 80 % 3 * 8), .int .i64 ((n : Int) / 240 % 3 * 10), .int .i64 (shareN (n / 720 % 5)), .int .i64 x5, .int .i64 x5] 0 W9
   show Exit.then _ _ _ _ (W9.setCells w.heap.size 0 [.int .i64 (1 + (n : Int) % 4), .int .i64 (5 + (n : Int) / 4 % 20), .int .i64 ((n : Int) / 80 % 3 * 8), .int .i64 ((n : Int) / 240 % 3 * 10), .int .i64 (shareN (n / 720 % 5)), .int .i64 x5, .int .i64 x5])
   generalize W9.setCells w.heap.size 0 [.int .i64 (1 + (n : Int) % 4), .int .i64 (5 + (n : Int) / 4 % 20), .int .i64 ((n : Int) / 80 % 3 * 8), .int .i64 ((n : Int) / 240 % 3 * 10), .int .i64 (shareN (n / 720 % 5)), .int .i64 x5, .int .i64 x5] = W10 at hrs hk5 ⊢
   have HEF := hide (Keeps.ext gE hk5 (fun g hg => by omega))
   have HRG := hide hrs
   clear hrs hk5 hth g4 g0 gE td1 td2 tw1 tw2
   simp only [Act.put]
   go_wp2_with (fail)
   (try simp only [Exit.inBlock, Exit.then])
   refine bodyPost_ret (results_cell_mid rfl _ _ w.heap.size 0 [.int .i64 (1 + (n : Int) % 4), .int .i64 (5 + (n : Int) / 4 % 20), .int .i64 ((n : Int) / 80 % 3 * 8), .int .i64 ((n : Int) / 240 % 3 * 10), .int .i64 (shareN (n / 720 % 5)), .int .i64 x5, .int .i64 x5] dd rfl HRG.out hd1 hd2 Tryz.watchSize) rfl ?_
   exact ⟨by rw [HD.out, HX5.out]; first | rfl | rw [show topN 0 = 1 from rfl, Int.mul_one], HEF.out⟩
  ·have td1 : (n : Int).tdiv 72000 = (n : Int) / 72000 := Int.tdiv_eq_ediv_of_nonneg (by omega)
   have td2 := (Int.tmod_eq_emod_of_nonneg (a := (n : Int) / 72000) (b := 4) (by omega)).trans hq
   have HD := hide hd
   have tw1 : IntKind.i64.wrap ((n : Int) / 72000) = (n : Int) / 72000 := IntWalk.i64_in _ (by omega)
   have tw2 : IntKind.i64.wrap (x5 * 2) = x5 * 2 := IntWalk.i64_in _ (by omega)
   clear hq hd
   go_upto_region 3 with (fail)
   have hc : ∀ X, Ext wc.drew X → X.cell? ⟨b4, 5, none⟩ = some (.int .i64 x5) := fun X hX => (hX.cell (p := ⟨b4, 5, none⟩) hl4).trans c5
   have HC := hide hc
   clear hc
   refine wp_region_held_drew (S := fun w' => w'.cell? ⟨b4, 5, none⟩ = some (.int .i64 x5)) (by kernel_rfl) (HC.out _ (Below.refl _ _)) (fun hHeld => ?_)
   refine wpAnyH_take (i := 0) (v := (.pointer (some ⟨b4, 5, none⟩))) rfl (by kernel_rfl) (by kernel_rfl) (by kernel_rfl) (fun _ _ _ h => h) (Or.inl ⟨by rfl, ?_⟩) hHeld ?_
   ·intro w hSw; go_simp
   simp only [Act.put, List.setIfInBounds_toArray]
   refine wpAnyH_take (i := 1) (v := (.int .i64 x5)) rfl (by kernel_rfl) (by kernel_rfl) (by kernel_rfl) (fun _ _ _ h => h) (Or.inl ⟨by rfl, ?_⟩) hHeld ?_
   ·intro w hSw; go_simp
   simp only [Act.put]
   refine wpAnyH_take (i := 3) (v := (.int .i64 (n : Int))) rfl (by kernel_rfl) (by kernel_rfl) (by kernel_rfl) (fun _ _ _ h => h) (Or.inl ⟨by rfl, ?_⟩) hHeld ?_
   ·intro w hSw; go_simp
   simp only [Act.put]
   refine wpAnyH_take (i := 4) (v := (.int .i64 ((n : Int) / 72000))) rfl (by kernel_rfl) (by kernel_rfl) (by kernel_rfl) (fun _ _ _ h => h) (Or.inl ⟨by rfl, ?_⟩) hHeld ?_
   ·intro w hSw; go_simp
   simp only [Act.put]
   refine wpAnyH_take (i := 5) (v := (.int .i64 1)) rfl (by kernel_rfl) (by kernel_rfl) (by kernel_rfl) (fun _ _ _ h => h) (Or.inl ⟨by rfl, ?_⟩) hHeld ?_
   ·intro w hSw; go_simp
   simp only [Act.put]
   refine wpAnyH_ready (rs := [2]) (by kernel_rfl) (by simp) ?_
   refine AllReadyH.cons rfl (fun K hK => ?_) AllReadyH.nil
   go_simp
   refine hK.out _ _ ?_ (fun hHeld => ?_)
   ·(try dsimp only); (first | exact HC.out _ (Below.refl _ _) | exact HC.out _ ((Below.refl _ _).alloc (Nat.le_refl _) _) | exact HC2.out _ _)
   clear hK K
   refine wpAnyH_ready (rs := [6]) (by kernel_rfl) (by simp) ?_
   refine AllReadyH.cons rfl (fun K hK => ?_) AllReadyH.nil
   go_simp
   refine hK.out _ _ ?_ (fun hHeld => ?_)
   ·(try dsimp only); (first | exact HC.out _ (Below.refl _ _) | exact HC.out _ ((Below.refl _ _).alloc (Nat.le_refl _) _) | exact HC2.out _ _)
   clear hK K
   refine wpAnyH_ready (rs := [7]) (by kernel_rfl) (by simp) ?_
   refine AllReadyH.cons rfl (fun K hK => ?_) AllReadyH.nil
   go_simp
   refine hK.out _ _ ?_ (fun hHeld => ?_)
   ·(try dsimp only); (first | exact HC.out _ (Below.refl _ _) | exact HC.out _ ((Below.refl _ _).alloc (Nat.le_refl _) _) | exact HC2.out _ _)
   clear hK K
   refine wpAnyH_ready (rs := [8]) (by kernel_rfl) (by simp) ?_
   refine AllReadyH.cons rfl (fun K hK => ?_) AllReadyH.nil
   go_simp
   refine hK.out _ _ ?_ (fun hHeld => ?_)
   ·(try dsimp only); (first | exact HC.out _ (Below.refl _ _) | exact HC.out _ ((Below.refl _ _).alloc (Nat.le_refl _) _) | exact HC2.out _ _)
   clear hK K
   refine wpAnyH_ready (rs := [9]) (by kernel_rfl) (by simp) ?_
   refine AllReadyH.cons rfl (fun K hK => ?_) AllReadyH.nil
   go_simp
   refine hK.out _ _ ?_ (fun hHeld => ?_)
   ·(try dsimp only); (first | exact HC.out _ (Below.refl _ _) | exact HC.out _ ((Below.refl _ _).alloc (Nat.le_refl _) _) | exact HC2.out _ _)
   clear hK K
   refine wpAnyH_ready (rs := [10]) (by kernel_rfl) (by simp) ?_
   refine AllReadyH.cons rfl (fun K hK => ?_) AllReadyH.nil
   go_simp
   refine hK.out _ _ ?_ (fun hHeld => ?_)
   ·(try dsimp only); (first | exact HC.out _ (Below.refl _ _) | exact HC.out _ ((Below.refl _ _).alloc (Nat.le_refl _) _) | exact HC2.out _ _)
   clear hK K
   refine wpAnyH_done (by kernel_rfl) ?_ _
   obtain ⟨g4, g0, gE⟩ := HW9.out (x5 * 2)
   generalize ((wc.setCell ⟨b4, 6, none⟩ (.int .i64 (x5 * 2))).alloc (.cells #[.int .i64 1, .int .i64 2, .int .i64 8, .int .i64 3] 3)).drew = W9 at *
   go_upto_region 4 with (fail)
   refine wp_region_lit ?_
   refine wpList_load_mid rfl 28 (.tmp 4) rfl b4 0 rfl [.int .i64 (1 + (n : Int) % 4), .int .i64 (5 + (n : Int) / 4 % 20), .int .i64 ((n : Int) / 80 % 3 * 8), .int .i64 ((n : Int) / 240 % 3 * 10), .int .i64 (shareN (n / 720 % 5)), .int .i64 x5, .int .i64 (x5 * 2)] dd (fun j v hv => by rw [Nat.zero_add]; exact ArrB.cell g4 j v (by simpa using hv)) hd1 hd2 Tryz.watchSize ?_
   have hth : W9.there w.heap.size 0 7 := fun j hj => by
    rw [Nat.zero_add]
    refine ⟨?_, by simp [World.frozen?, g0]⟩
    simp only [World.cell?, g0]
    simp [hj]
   refine wpList_store_mid rfl 28 (.tmp 2) (.tmp 43) rfl w.heap.size 0 #[.int .i64 (1 + (n : Int) % 4), .int .i64 (5 + (n : Int) / 4 % 20), .int .i64 ((n : Int) / 80 % 3 * 8), .int .i64 ((n : Int) / 240 % 3 * 10), .int .i64 (shareN (n / 720 % 5)), .int .i64 x5, .int .i64 (x5 * 2)] rfl rfl hth Tryz.watchSize (by simp [Value.oneCell']) ?_
   refine wpList_nil ?_
   have hrs := World.rangeAt_setCells_same W9 w.heap.size 0 [.int .i64 (1 + (n : Int) % 4), .int .i64 (5 + (n : Int) / 4 % 20), .int .i64 ((n : Int) / 80 % 3 * 8), .int .i64 ((n : Int) / 240 % 3 * 10), .int .i64 (shareN (n / 720 % 5)), .int .i64 x5, .int .i64 (x5 * 2)] hth
   have hk5 := keeps_setCells w.heap.size [.int .i64 (1 + (n : Int) % 4), .int .i64 (5 + (n : Int) / 4 % 20), .int .i64 ((n : Int) / 80 % 3 * 8), .int .i64 ((n : Int) / 240 % 3 * 10), .int .i64 (shareN (n / 720 % 5)), .int .i64 x5, .int .i64 (x5 * 2)] 0 W9
   show Exit.then _ _ _ _ (W9.setCells w.heap.size 0 [.int .i64 (1 + (n : Int) % 4), .int .i64 (5 + (n : Int) / 4 % 20), .int .i64 ((n : Int) / 80 % 3 * 8), .int .i64 ((n : Int) / 240 % 3 * 10), .int .i64 (shareN (n / 720 % 5)), .int .i64 x5, .int .i64 (x5 * 2)])
   generalize W9.setCells w.heap.size 0 [.int .i64 (1 + (n : Int) % 4), .int .i64 (5 + (n : Int) / 4 % 20), .int .i64 ((n : Int) / 80 % 3 * 8), .int .i64 ((n : Int) / 240 % 3 * 10), .int .i64 (shareN (n / 720 % 5)), .int .i64 x5, .int .i64 (x5 * 2)] = W10 at hrs hk5 ⊢
   have HEF := hide (Keeps.ext gE hk5 (fun g hg => by omega))
   have HRG := hide hrs
   clear hrs hk5 hth g4 g0 gE td1 td2 tw1 tw2
   simp only [Act.put]
   go_wp2_with (fail)
   (try simp only [Exit.inBlock, Exit.then])
   refine bodyPost_ret (results_cell_mid rfl _ _ w.heap.size 0 [.int .i64 (1 + (n : Int) % 4), .int .i64 (5 + (n : Int) / 4 % 20), .int .i64 ((n : Int) / 80 % 3 * 8), .int .i64 ((n : Int) / 240 % 3 * 10), .int .i64 (shareN (n / 720 % 5)), .int .i64 x5, .int .i64 (x5 * 2)] dd rfl HRG.out hd1 hd2 Tryz.watchSize) rfl ?_
   exact ⟨by rw [HD.out, HX5.out]; first | rfl | rw [show topN 0 = 1 from rfl, Int.mul_one], HEF.out⟩
  ·have td1 : (n : Int).tdiv 72000 = (n : Int) / 72000 := Int.tdiv_eq_ediv_of_nonneg (by omega)
   have td2 := (Int.tmod_eq_emod_of_nonneg (a := (n : Int) / 72000) (b := 4) (by omega)).trans hq
   have HD := hide hd
   have tw1 : IntKind.i64.wrap ((n : Int) / 72000) = (n : Int) / 72000 := IntWalk.i64_in _ (by omega)
   have tw2 : IntKind.i64.wrap (x5 * 8) = x5 * 8 := IntWalk.i64_in _ (by omega)
   clear hq hd
   go_upto_region 3 with (fail)
   have hc : ∀ X, Ext wc.drew X → X.cell? ⟨b4, 5, none⟩ = some (.int .i64 x5) := fun X hX => (hX.cell (p := ⟨b4, 5, none⟩) hl4).trans c5
   have HC := hide hc
   clear hc
   refine wp_region_held_drew (S := fun w' => w'.cell? ⟨b4, 5, none⟩ = some (.int .i64 x5)) (by kernel_rfl) (HC.out _ (Below.refl _ _)) (fun hHeld => ?_)
   refine wpAnyH_take (i := 0) (v := (.pointer (some ⟨b4, 5, none⟩))) rfl (by kernel_rfl) (by kernel_rfl) (by kernel_rfl) (fun _ _ _ h => h) (Or.inl ⟨by rfl, ?_⟩) hHeld ?_
   ·intro w hSw; go_simp
   simp only [Act.put, List.setIfInBounds_toArray]
   refine wpAnyH_take (i := 1) (v := (.int .i64 x5)) rfl (by kernel_rfl) (by kernel_rfl) (by kernel_rfl) (fun _ _ _ h => h) (Or.inl ⟨by rfl, ?_⟩) hHeld ?_
   ·intro w hSw; go_simp
   simp only [Act.put]
   refine wpAnyH_take (i := 3) (v := (.int .i64 (n : Int))) rfl (by kernel_rfl) (by kernel_rfl) (by kernel_rfl) (fun _ _ _ h => h) (Or.inl ⟨by rfl, ?_⟩) hHeld ?_
   ·intro w hSw; go_simp
   simp only [Act.put]
   refine wpAnyH_take (i := 4) (v := (.int .i64 ((n : Int) / 72000))) rfl (by kernel_rfl) (by kernel_rfl) (by kernel_rfl) (fun _ _ _ h => h) (Or.inl ⟨by rfl, ?_⟩) hHeld ?_
   ·intro w hSw; go_simp
   simp only [Act.put]
   refine wpAnyH_take (i := 5) (v := (.int .i64 2)) rfl (by kernel_rfl) (by kernel_rfl) (by kernel_rfl) (fun _ _ _ h => h) (Or.inl ⟨by rfl, ?_⟩) hHeld ?_
   ·intro w hSw; go_simp
   simp only [Act.put]
   refine wpAnyH_ready (rs := [2]) (by kernel_rfl) (by simp) ?_
   refine AllReadyH.cons rfl (fun K hK => ?_) AllReadyH.nil
   go_simp
   refine hK.out _ _ ?_ (fun hHeld => ?_)
   ·(try dsimp only); (first | exact HC.out _ (Below.refl _ _) | exact HC.out _ ((Below.refl _ _).alloc (Nat.le_refl _) _) | exact HC2.out _ _)
   clear hK K
   refine wpAnyH_ready (rs := [6]) (by kernel_rfl) (by simp) ?_
   refine AllReadyH.cons rfl (fun K hK => ?_) AllReadyH.nil
   go_simp
   refine hK.out _ _ ?_ (fun hHeld => ?_)
   ·(try dsimp only); (first | exact HC.out _ (Below.refl _ _) | exact HC.out _ ((Below.refl _ _).alloc (Nat.le_refl _) _) | exact HC2.out _ _)
   clear hK K
   refine wpAnyH_ready (rs := [7]) (by kernel_rfl) (by simp) ?_
   refine AllReadyH.cons rfl (fun K hK => ?_) AllReadyH.nil
   go_simp
   refine hK.out _ _ ?_ (fun hHeld => ?_)
   ·(try dsimp only); (first | exact HC.out _ (Below.refl _ _) | exact HC.out _ ((Below.refl _ _).alloc (Nat.le_refl _) _) | exact HC2.out _ _)
   clear hK K
   refine wpAnyH_ready (rs := [8]) (by kernel_rfl) (by simp) ?_
   refine AllReadyH.cons rfl (fun K hK => ?_) AllReadyH.nil
   go_simp
   refine hK.out _ _ ?_ (fun hHeld => ?_)
   ·(try dsimp only); (first | exact HC.out _ (Below.refl _ _) | exact HC.out _ ((Below.refl _ _).alloc (Nat.le_refl _) _) | exact HC2.out _ _)
   clear hK K
   refine wpAnyH_ready (rs := [9]) (by kernel_rfl) (by simp) ?_
   refine AllReadyH.cons rfl (fun K hK => ?_) AllReadyH.nil
   go_simp
   refine hK.out _ _ ?_ (fun hHeld => ?_)
   ·(try dsimp only); (first | exact HC.out _ (Below.refl _ _) | exact HC.out _ ((Below.refl _ _).alloc (Nat.le_refl _) _) | exact HC2.out _ _)
   clear hK K
   refine wpAnyH_ready (rs := [10]) (by kernel_rfl) (by simp) ?_
   refine AllReadyH.cons rfl (fun K hK => ?_) AllReadyH.nil
   go_simp
   refine hK.out _ _ ?_ (fun hHeld => ?_)
   ·(try dsimp only); (first | exact HC.out _ (Below.refl _ _) | exact HC.out _ ((Below.refl _ _).alloc (Nat.le_refl _) _) | exact HC2.out _ _)
   clear hK K
   refine wpAnyH_done (by kernel_rfl) ?_ _
   obtain ⟨g4, g0, gE⟩ := HW9.out (x5 * 8)
   generalize ((wc.setCell ⟨b4, 6, none⟩ (.int .i64 (x5 * 8))).alloc (.cells #[.int .i64 1, .int .i64 2, .int .i64 8, .int .i64 3] 3)).drew = W9 at *
   go_upto_region 4 with (fail)
   refine wp_region_lit ?_
   refine wpList_load_mid rfl 28 (.tmp 4) rfl b4 0 rfl [.int .i64 (1 + (n : Int) % 4), .int .i64 (5 + (n : Int) / 4 % 20), .int .i64 ((n : Int) / 80 % 3 * 8), .int .i64 ((n : Int) / 240 % 3 * 10), .int .i64 (shareN (n / 720 % 5)), .int .i64 x5, .int .i64 (x5 * 8)] dd (fun j v hv => by rw [Nat.zero_add]; exact ArrB.cell g4 j v (by simpa using hv)) hd1 hd2 Tryz.watchSize ?_
   have hth : W9.there w.heap.size 0 7 := fun j hj => by
    rw [Nat.zero_add]
    refine ⟨?_, by simp [World.frozen?, g0]⟩
    simp only [World.cell?, g0]
    simp [hj]
   refine wpList_store_mid rfl 28 (.tmp 2) (.tmp 43) rfl w.heap.size 0 #[.int .i64 (1 + (n : Int) % 4), .int .i64 (5 + (n : Int) / 4 % 20), .int .i64 ((n : Int) / 80 % 3 * 8), .int .i64 ((n : Int) / 240 % 3 * 10), .int .i64 (shareN (n / 720 % 5)), .int .i64 x5, .int .i64 (x5 * 8)] rfl rfl hth Tryz.watchSize (by simp [Value.oneCell']) ?_
   refine wpList_nil ?_
   have hrs := World.rangeAt_setCells_same W9 w.heap.size 0 [.int .i64 (1 + (n : Int) % 4), .int .i64 (5 + (n : Int) / 4 % 20), .int .i64 ((n : Int) / 80 % 3 * 8), .int .i64 ((n : Int) / 240 % 3 * 10), .int .i64 (shareN (n / 720 % 5)), .int .i64 x5, .int .i64 (x5 * 8)] hth
   have hk5 := keeps_setCells w.heap.size [.int .i64 (1 + (n : Int) % 4), .int .i64 (5 + (n : Int) / 4 % 20), .int .i64 ((n : Int) / 80 % 3 * 8), .int .i64 ((n : Int) / 240 % 3 * 10), .int .i64 (shareN (n / 720 % 5)), .int .i64 x5, .int .i64 (x5 * 8)] 0 W9
   show Exit.then _ _ _ _ (W9.setCells w.heap.size 0 [.int .i64 (1 + (n : Int) % 4), .int .i64 (5 + (n : Int) / 4 % 20), .int .i64 ((n : Int) / 80 % 3 * 8), .int .i64 ((n : Int) / 240 % 3 * 10), .int .i64 (shareN (n / 720 % 5)), .int .i64 x5, .int .i64 (x5 * 8)])
   generalize W9.setCells w.heap.size 0 [.int .i64 (1 + (n : Int) % 4), .int .i64 (5 + (n : Int) / 4 % 20), .int .i64 ((n : Int) / 80 % 3 * 8), .int .i64 ((n : Int) / 240 % 3 * 10), .int .i64 (shareN (n / 720 % 5)), .int .i64 x5, .int .i64 (x5 * 8)] = W10 at hrs hk5 ⊢
   have HEF := hide (Keeps.ext gE hk5 (fun g hg => by omega))
   have HRG := hide hrs
   clear hrs hk5 hth g4 g0 gE td1 td2 tw1 tw2
   simp only [Act.put]
   go_wp2_with (fail)
   (try simp only [Exit.inBlock, Exit.then])
   refine bodyPost_ret (results_cell_mid rfl _ _ w.heap.size 0 [.int .i64 (1 + (n : Int) % 4), .int .i64 (5 + (n : Int) / 4 % 20), .int .i64 ((n : Int) / 80 % 3 * 8), .int .i64 ((n : Int) / 240 % 3 * 10), .int .i64 (shareN (n / 720 % 5)), .int .i64 x5, .int .i64 (x5 * 8)] dd rfl HRG.out hd1 hd2 Tryz.watchSize) rfl ?_
   exact ⟨by rw [HD.out, HX5.out]; first | rfl | rw [show topN 0 = 1 from rfl, Int.mul_one], HEF.out⟩
  ·have td1 : (n : Int).tdiv 72000 = (n : Int) / 72000 := Int.tdiv_eq_ediv_of_nonneg (by omega)
   have td2 := (Int.tmod_eq_emod_of_nonneg (a := (n : Int) / 72000) (b := 4) (by omega)).trans hq
   have HD := hide hd
   have tw1 : IntKind.i64.wrap ((n : Int) / 72000) = (n : Int) / 72000 := IntWalk.i64_in _ (by omega)
   have tw2 : IntKind.i64.wrap (x5 * 3) = x5 * 3 := IntWalk.i64_in _ (by omega)
   clear hq hd
   go_upto_region 3 with (fail)
   have hc : ∀ X, Ext wc.drew X → X.cell? ⟨b4, 5, none⟩ = some (.int .i64 x5) := fun X hX => (hX.cell (p := ⟨b4, 5, none⟩) hl4).trans c5
   have HC := hide hc
   clear hc
   refine wp_region_held_drew (S := fun w' => w'.cell? ⟨b4, 5, none⟩ = some (.int .i64 x5)) (by kernel_rfl) (HC.out _ (Below.refl _ _)) (fun hHeld => ?_)
   refine wpAnyH_take (i := 0) (v := (.pointer (some ⟨b4, 5, none⟩))) rfl (by kernel_rfl) (by kernel_rfl) (by kernel_rfl) (fun _ _ _ h => h) (Or.inl ⟨by rfl, ?_⟩) hHeld ?_
   ·intro w hSw; go_simp
   simp only [Act.put, List.setIfInBounds_toArray]
   refine wpAnyH_take (i := 1) (v := (.int .i64 x5)) rfl (by kernel_rfl) (by kernel_rfl) (by kernel_rfl) (fun _ _ _ h => h) (Or.inl ⟨by rfl, ?_⟩) hHeld ?_
   ·intro w hSw; go_simp
   simp only [Act.put]
   refine wpAnyH_take (i := 3) (v := (.int .i64 (n : Int))) rfl (by kernel_rfl) (by kernel_rfl) (by kernel_rfl) (fun _ _ _ h => h) (Or.inl ⟨by rfl, ?_⟩) hHeld ?_
   ·intro w hSw; go_simp
   simp only [Act.put]
   refine wpAnyH_take (i := 4) (v := (.int .i64 ((n : Int) / 72000))) rfl (by kernel_rfl) (by kernel_rfl) (by kernel_rfl) (fun _ _ _ h => h) (Or.inl ⟨by rfl, ?_⟩) hHeld ?_
   ·intro w hSw; go_simp
   simp only [Act.put]
   refine wpAnyH_take (i := 5) (v := (.int .i64 3)) rfl (by kernel_rfl) (by kernel_rfl) (by kernel_rfl) (fun _ _ _ h => h) (Or.inl ⟨by rfl, ?_⟩) hHeld ?_
   ·intro w hSw; go_simp
   simp only [Act.put]
   refine wpAnyH_ready (rs := [2]) (by kernel_rfl) (by simp) ?_
   refine AllReadyH.cons rfl (fun K hK => ?_) AllReadyH.nil
   go_simp
   refine hK.out _ _ ?_ (fun hHeld => ?_)
   ·(try dsimp only); (first | exact HC.out _ (Below.refl _ _) | exact HC.out _ ((Below.refl _ _).alloc (Nat.le_refl _) _) | exact HC2.out _ _)
   clear hK K
   refine wpAnyH_ready (rs := [6]) (by kernel_rfl) (by simp) ?_
   refine AllReadyH.cons rfl (fun K hK => ?_) AllReadyH.nil
   go_simp
   refine hK.out _ _ ?_ (fun hHeld => ?_)
   ·(try dsimp only); (first | exact HC.out _ (Below.refl _ _) | exact HC.out _ ((Below.refl _ _).alloc (Nat.le_refl _) _) | exact HC2.out _ _)
   clear hK K
   refine wpAnyH_ready (rs := [7]) (by kernel_rfl) (by simp) ?_
   refine AllReadyH.cons rfl (fun K hK => ?_) AllReadyH.nil
   go_simp
   refine hK.out _ _ ?_ (fun hHeld => ?_)
   ·(try dsimp only); (first | exact HC.out _ (Below.refl _ _) | exact HC.out _ ((Below.refl _ _).alloc (Nat.le_refl _) _) | exact HC2.out _ _)
   clear hK K
   refine wpAnyH_ready (rs := [8]) (by kernel_rfl) (by simp) ?_
   refine AllReadyH.cons rfl (fun K hK => ?_) AllReadyH.nil
   go_simp
   refine hK.out _ _ ?_ (fun hHeld => ?_)
   ·(try dsimp only); (first | exact HC.out _ (Below.refl _ _) | exact HC.out _ ((Below.refl _ _).alloc (Nat.le_refl _) _) | exact HC2.out _ _)
   clear hK K
   refine wpAnyH_ready (rs := [9]) (by kernel_rfl) (by simp) ?_
   refine AllReadyH.cons rfl (fun K hK => ?_) AllReadyH.nil
   go_simp
   refine hK.out _ _ ?_ (fun hHeld => ?_)
   ·(try dsimp only); (first | exact HC.out _ (Below.refl _ _) | exact HC.out _ ((Below.refl _ _).alloc (Nat.le_refl _) _) | exact HC2.out _ _)
   clear hK K
   refine wpAnyH_ready (rs := [10]) (by kernel_rfl) (by simp) ?_
   refine AllReadyH.cons rfl (fun K hK => ?_) AllReadyH.nil
   go_simp
   refine hK.out _ _ ?_ (fun hHeld => ?_)
   ·(try dsimp only); (first | exact HC.out _ (Below.refl _ _) | exact HC.out _ ((Below.refl _ _).alloc (Nat.le_refl _) _) | exact HC2.out _ _)
   clear hK K
   refine wpAnyH_done (by kernel_rfl) ?_ _
   obtain ⟨g4, g0, gE⟩ := HW9.out (x5 * 3)
   generalize ((wc.setCell ⟨b4, 6, none⟩ (.int .i64 (x5 * 3))).alloc (.cells #[.int .i64 1, .int .i64 2, .int .i64 8, .int .i64 3] 3)).drew = W9 at *
   go_upto_region 4 with (fail)
   refine wp_region_lit ?_
   refine wpList_load_mid rfl 28 (.tmp 4) rfl b4 0 rfl [.int .i64 (1 + (n : Int) % 4), .int .i64 (5 + (n : Int) / 4 % 20), .int .i64 ((n : Int) / 80 % 3 * 8), .int .i64 ((n : Int) / 240 % 3 * 10), .int .i64 (shareN (n / 720 % 5)), .int .i64 x5, .int .i64 (x5 * 3)] dd (fun j v hv => by rw [Nat.zero_add]; exact ArrB.cell g4 j v (by simpa using hv)) hd1 hd2 Tryz.watchSize ?_
   have hth : W9.there w.heap.size 0 7 := fun j hj => by
    rw [Nat.zero_add]
    refine ⟨?_, by simp [World.frozen?, g0]⟩
    simp only [World.cell?, g0]
    simp [hj]
   refine wpList_store_mid rfl 28 (.tmp 2) (.tmp 43) rfl w.heap.size 0 #[.int .i64 (1 + (n : Int) % 4), .int .i64 (5 + (n : Int) / 4 % 20), .int .i64 ((n : Int) / 80 % 3 * 8), .int .i64 ((n : Int) / 240 % 3 * 10), .int .i64 (shareN (n / 720 % 5)), .int .i64 x5, .int .i64 (x5 * 3)] rfl rfl hth Tryz.watchSize (by simp [Value.oneCell']) ?_
   refine wpList_nil ?_
   have hrs := World.rangeAt_setCells_same W9 w.heap.size 0 [.int .i64 (1 + (n : Int) % 4), .int .i64 (5 + (n : Int) / 4 % 20), .int .i64 ((n : Int) / 80 % 3 * 8), .int .i64 ((n : Int) / 240 % 3 * 10), .int .i64 (shareN (n / 720 % 5)), .int .i64 x5, .int .i64 (x5 * 3)] hth
   have hk5 := keeps_setCells w.heap.size [.int .i64 (1 + (n : Int) % 4), .int .i64 (5 + (n : Int) / 4 % 20), .int .i64 ((n : Int) / 80 % 3 * 8), .int .i64 ((n : Int) / 240 % 3 * 10), .int .i64 (shareN (n / 720 % 5)), .int .i64 x5, .int .i64 (x5 * 3)] 0 W9
   show Exit.then _ _ _ _ (W9.setCells w.heap.size 0 [.int .i64 (1 + (n : Int) % 4), .int .i64 (5 + (n : Int) / 4 % 20), .int .i64 ((n : Int) / 80 % 3 * 8), .int .i64 ((n : Int) / 240 % 3 * 10), .int .i64 (shareN (n / 720 % 5)), .int .i64 x5, .int .i64 (x5 * 3)])
   generalize W9.setCells w.heap.size 0 [.int .i64 (1 + (n : Int) % 4), .int .i64 (5 + (n : Int) / 4 % 20), .int .i64 ((n : Int) / 80 % 3 * 8), .int .i64 ((n : Int) / 240 % 3 * 10), .int .i64 (shareN (n / 720 % 5)), .int .i64 x5, .int .i64 (x5 * 3)] = W10 at hrs hk5 ⊢
   have HEF := hide (Keeps.ext gE hk5 (fun g hg => by omega))
   have HRG := hide hrs
   clear hrs hk5 hth g4 g0 gE td1 td2 tw1 tw2
   simp only [Act.put]
   go_wp2_with (fail)
   (try simp only [Exit.inBlock, Exit.then])
   refine bodyPost_ret (results_cell_mid rfl _ _ w.heap.size 0 [.int .i64 (1 + (n : Int) % 4), .int .i64 (5 + (n : Int) / 4 % 20), .int .i64 ((n : Int) / 80 % 3 * 8), .int .i64 ((n : Int) / 240 % 3 * 10), .int .i64 (shareN (n / 720 % 5)), .int .i64 x5, .int .i64 (x5 * 3)] dd rfl HRG.out hd1 hd2 Tryz.watchSize) rfl ?_
   exact ⟨by rw [HD.out, HX5.out]; first | rfl | rw [show topN 0 = 1 from rfl, Int.mul_one], HEF.out⟩
end Go.Proofs.YtmpciohmljpncaaGreatDoor
