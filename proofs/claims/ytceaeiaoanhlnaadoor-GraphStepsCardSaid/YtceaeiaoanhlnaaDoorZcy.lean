/- Merged texts (CfY, CfZ). -/
import Derived.Test.YtceaeiaoanhlnaaDoorCfE
namespace Go.Proofs.YtceaeiaoanhlnaaDoor
open Go.ChangeShapes Go.WideShapes Go.ChangeAt Go.RowKit Go.Lib Go.Shelf
set_option maxRecDepth 100000 in
set_option maxHeartbeats 16000000 in
theorem conf_tail3 (L : List Int) (a : Option Addr) (c : Nat) (w W0 : World) (x : Nat → Value) (e0 : x 0 = .slice a L.length c) (e2 : x 2 = .pointer (some ⟨w.heap.size, 0, none⟩)) (e3 : x 3 = .int .i64 (pk L 0 : Nat)) (e4 : x 4 = .int .i64 (svcsM L : Nat)) (hE0 : Ext w W0) (hb0 : W0.heap[w.heap.size]? = some (.cells #[.slice none 0 0, .slice none 0 0, .slice none 0 0, .slice none 0 0, .int .i64 0, .int .i64 0, .int .i64 0, .int .i64 0, .int .i64 0, .int .i64 0, .int .i64 0, .int .i64 0, .int .i64 0, .int .i64 0, .int .i64 0, .int .i64 0, .int .i64 0, .int .i64 0, .int .i64 0, .int .i64 0] 60 (0, 0))) (hs : Ints w (.slice a L.length c) L) (hL : ∀ x ∈ L, I64 x) :
  Code.wp Tryd.prog (confTail 3) (bodyPost Tryd.prog Tryd.f35 (ConfP L w)) ⟨frameOf 236 x, []⟩ W0 := by
 conv => arg 2; whnf
 rw [frame236]
 simp only [e0, e2, e3, e4]
 clear e0 e2 e3 e4
 have HP1 := hide (fun X (hX : Ext w X) => (pick_any L 1 (.slice a L.length c) X (hs.ext hX) hL : Calls Tryd.prog 56 #[.slice a L.length c, .int .i64 1] X _))
 have HS := hide hs
 have HL := hide hL
 have HX0 := hide hE0
 have HB0 := hide hb0
 have p0 := pk_lt L 0
 have p1 := pk_lt L 1
 obtain ⟨N0, hN0⟩ : ∃ N, pk L 0 = N := ⟨_, rfl⟩
 obtain ⟨N1, hN1⟩ : ∃ N, pk L 1 = N := ⟨_, rfl⟩
 rw [hN0] at p0 ⊢
 rw [hN1] at HP1 p1
 have HN0 := hide hN0
 have HN1 := hide hN1
 have p0z : (N0 : Int) < 1000000 := by omega
 have p1z : (N1 : Int) < 1000000 := by omega
 clear hs hL hE0 hb0 hN0 hN1
 have tf0 : (N0 : Int).tdiv 4 = (N0 : Int) / 4 := Int.tdiv_eq_ediv_of_nonneg (by omega)
 have tf1 : IntKind.i64.wrap ((N0 : Int) / 4) = (N0 : Int) / 4 := IntWalk.i64_in _ (by omega)
 have tf2 : ((N0 : Int) / 4).tmod 3 = (N0 : Int) / 4 % 3 := Int.tmod_eq_emod_of_nonneg (by omega)
 have tf3 : IntKind.i64.wrap ((N0 : Int) / 4 % 3) = (N0 : Int) / 4 % 3 := IntWalk.i64_in _ (by omega)
 have tf4 : IntKind.i64.wrap ((N0 : Int) / 4 % 3 * 40) = (N0 : Int) / 4 % 3 * 40 := IntWalk.i64_in _ (by omega)
 have tf5 : (N0 : Int).tdiv 12 = (N0 : Int) / 12 := Int.tdiv_eq_ediv_of_nonneg (by omega)
 have tf6 : IntKind.i64.wrap ((N0 : Int) / 12) = (N0 : Int) / 12 := IntWalk.i64_in _ (by omega)
 have tf7 : ((N0 : Int) / 12).tmod 2 = (N0 : Int) / 12 % 2 := Int.tmod_eq_emod_of_nonneg (by omega)
 have tf8 : IntKind.i64.wrap ((N0 : Int) / 12 % 2) = (N0 : Int) / 12 % 2 := IntWalk.i64_in _ (by omega)
 have tf9 : IntKind.i64.wrap (1 + (N0 : Int) / 12 % 2) = 1 + (N0 : Int) / 12 % 2 := IntWalk.i64_in _ (by omega)
 have tf10 : (N0 : Int).tdiv 24 = (N0 : Int) / 24 := Int.tdiv_eq_ediv_of_nonneg (by omega)
 have tf11 : IntKind.i64.wrap ((N0 : Int) / 24) = (N0 : Int) / 24 := IntWalk.i64_in _ (by omega)
 have tf12 : ((N0 : Int) / 24).tmod 8 = (N0 : Int) / 24 % 8 := Int.tmod_eq_emod_of_nonneg (by omega)
 have tf13 : IntKind.i64.wrap ((N0 : Int) / 24 % 8) = (N0 : Int) / 24 % 8 := IntWalk.i64_in _ (by omega)
 have tf14 : IntKind.i64.wrap (3 + (N0 : Int) / 24 % 8) = 3 + (N0 : Int) / 24 % 8 := IntWalk.i64_in _ (by omega)
 have tf15 : (N0 : Int).tdiv 192 = (N0 : Int) / 192 := Int.tdiv_eq_ediv_of_nonneg (by omega)
 have tf16 : IntKind.i64.wrap ((N0 : Int) / 192) = (N0 : Int) / 192 := IntWalk.i64_in _ (by omega)
 have tf17 : ((N0 : Int) / 192).tmod 6 = (N0 : Int) / 192 % 6 := Int.tmod_eq_emod_of_nonneg (by omega)
 have tf18 : IntKind.i64.wrap ((N0 : Int) / 192 % 6) = (N0 : Int) / 192 % 6 := IntWalk.i64_in _ (by omega)
 have tf19 : (N0 : Int).tdiv 1152 = (N0 : Int) / 1152 := Int.tdiv_eq_ediv_of_nonneg (by omega)
 have tf20 : IntKind.i64.wrap ((N0 : Int) / 1152) = (N0 : Int) / 1152 := IntWalk.i64_in _ (by omega)
 have tf21 : ((N0 : Int) / 1152).tmod 3 = (N0 : Int) / 1152 % 3 := Int.tmod_eq_emod_of_nonneg (by omega)
 have tf22 : IntKind.i64.wrap ((N0 : Int) / 1152 % 3) = (N0 : Int) / 1152 % 3 := IntWalk.i64_in _ (by omega)
 have tf23 : IntKind.i64.wrap (1 + (N0 : Int) / 1152 % 3) = 1 + (N0 : Int) / 1152 % 3 := IntWalk.i64_in _ (by omega)
 have tf24 : (N0 : Int).tdiv 3456 = (N0 : Int) / 3456 := Int.tdiv_eq_ediv_of_nonneg (by omega)
 have tf25 : IntKind.i64.wrap ((N0 : Int) / 3456) = (N0 : Int) / 3456 := IntWalk.i64_in _ (by omega)
 have tf26 : ((N0 : Int) / 3456).tmod 200 = (N0 : Int) / 3456 % 200 := Int.tmod_eq_emod_of_nonneg (by omega)
 have tf27 : IntKind.i64.wrap ((N0 : Int) / 3456 % 200) = (N0 : Int) / 3456 % 200 := IntWalk.i64_in _ (by omega)
 have tf28 : IntKind.i64.wrap (60 + (N0 : Int) / 3456 % 200) = 60 + (N0 : Int) / 3456 % 200 := IntWalk.i64_in _ (by omega)
 have tf29 : (N1 : Int).tmod 7 = (N1 : Int) % 7 := Int.tmod_eq_emod_of_nonneg (by omega)
 have tf30 : IntKind.i64.wrap ((N1 : Int) % 7) = (N1 : Int) % 7 := IntWalk.i64_in _ (by omega)
 have tf31 : (N1 : Int).tdiv 7 = (N1 : Int) / 7 := Int.tdiv_eq_ediv_of_nonneg (by omega)
 have tf32 : IntKind.i64.wrap ((N1 : Int) / 7) = (N1 : Int) / 7 := IntWalk.i64_in _ (by omega)
 go_upto_region 3 with (fail)
 go_cut [5] from 19 to 53 (fun s5 w' => ∃ b5, s5 = .pointer (some ⟨b5, 0, none⟩) ∧ Ext W0 w' ∧ W0.heap.size ≤ b5 ∧ BoxC w' b5 (conf0 L))
 case first =>
  have hE4 : Ext W0 (W0.alloc (.cells #[.int .i64 100, .int .i64 50, .int .i64 0, .int .i64 100] 3)) := (Below.refl _ _).alloc (Nat.le_refl _) _
  have HE4 := hide hE4
  clear hE4
  refine wp_region_lit ?_
  have td2 : ((N1 : Int) / 7).tmod 4 = ((N1 / 7 % 4 : Nat) : Int) := by rw [Int.tmod_eq_emod_of_nonneg (by omega)]; omega
  have hd4 : N1 / 7 % 4 < 4 := by omega
  obtain ⟨d, hd⟩ : ∃ d, N1 / 7 % 4 = d := ⟨_, rfl⟩
  rw [hd] at td2 hd4
  have tdw : IntKind.i64.wrap (d : Int) = (d : Int) := IntWalk.i64_in _ (by omega)
  have hsc : (W0.alloc (.cells #[.int .i64 100, .int .i64 50, .int .i64 0, .int .i64 100] 3)).cell? ⟨W0.heap.size, d, none⟩ = some (.int .i64 (sampleN d)) := by
   rw [World.cell?, heap_alloc_new]
   rcases (by omega : d = 0 ∨ d = 1 ∨ d = 2 ∨ d = 3) with rfl | rfl | rfl | rfl <;> rfl
  have hd4z : (d : Int) < 4 := by omega
  have HD := hide hd
  clear hd
  refine wpList_plain rfl fun K hK => ?_
  go_simp
  refine hK _ _ ?_
  refine wpList_plain rfl fun K hK => ?_
  go_simp
  refine hK _ _ ?_
  refine wpList_plain rfl fun K hK => ?_
  go_simp
  refine hK _ _ ?_
  refine wpList_plain rfl fun K hK => ?_
  go_simp
  refine hK _ _ ?_
  refine wpList_plain rfl fun K hK => ?_
  go_simp
  refine hK _ _ ?_
  refine wpList_plain rfl fun K hK => ?_
  go_simp
  refine hK _ _ ?_
  refine wpList_plain rfl fun K hK => ?_
  go_simp
  refine hK _ _ ?_
  refine wpList_plain rfl fun K hK => ?_
  go_simp
  refine hK _ _ ?_
  refine wpList_plain rfl fun K hK => ?_
  go_simp
  refine hK _ _ ?_
  refine wpList_plain rfl fun K hK => ?_
  go_simp
  refine hK _ _ ?_
  refine wpList_plain rfl fun K hK => ?_
  go_simp
  refine hK _ _ ?_
  refine wpList_plain rfl fun K hK => ?_
  go_simp
  refine hK _ _ ?_
  refine wpList_plain rfl fun K hK => ?_
  go_simp
  refine hK _ _ ?_
  refine wpList_plain rfl fun K hK => ?_
  go_simp
  refine hK _ _ ?_
  refine wpList_plain rfl fun K hK => ?_
  go_simp
  refine hK _ _ ?_
  refine wpList_plain rfl fun K hK => ?_
  go_simp
  refine hK _ _ ?_
  refine wpList_plain rfl fun K hK => ?_
  go_simp
  refine hK _ _ ?_
  refine wpList_plain rfl fun K hK => ?_
  go_simp
  refine hK _ _ ?_
  refine wpList_plain rfl fun K hK => ?_
  go_simp
  refine hK _ _ ?_
  refine wpList_plain rfl fun K hK => ?_
  go_simp
  refine hK _ _ ?_
  refine wpList_plain rfl fun K hK => ?_
  go_simp
  refine hK _ _ ?_
  refine wpList_plain rfl fun K hK => ?_
  go_simp
  refine hK _ _ ?_
  refine wpList_plain rfl fun K hK => ?_
  go_simp
  refine hK _ _ ?_
  refine wpList_plain rfl fun K hK => ?_
  go_simp
  refine hK _ _ ?_
  refine wpList_plain rfl fun K hK => ?_
  go_simp
  refine (HP1.out _ HX0.out).mono ?_
  rintro e w1 ⟨rfl, rfl⟩
  refine hK _ _ ?_
  refine wpList_plain rfl fun K hK => ?_
  go_simp
  refine hK _ _ ?_
  refine wpList_plain rfl fun K hK => ?_
  go_simp
  refine hK _ _ ?_
  refine wpList_plain rfl fun K hK => ?_
  go_simp
  refine hK _ _ ?_
  refine wpList_plain rfl fun K hK => ?_
  go_simp
  refine (HP1.out _ (HX0.out.trans HE4.out)).mono ?_
  rintro e w1 ⟨rfl, rfl⟩
  refine hK _ _ ?_
  refine wpList_plain rfl fun K hK => ?_
  go_simp
  refine hK _ _ ?_
  refine wpList_plain rfl fun K hK => ?_
  go_simp
  refine hK _ _ ?_
  refine wpList_plain rfl fun K hK => ?_
  go_simp
  refine hK _ _ ?_
  refine wpList_plain rfl fun K hK => ?_
  go_simp
  refine hK _ _ ?_
  refine wpList_plain rfl fun K hK => ?_
  go_simp
  refine hK _ _ ?_
  refine wpList_plain rfl fun K hK => ?_
  go_simp
  refine hK _ _ ?_
  have hnb := heap_second W0 (.cells #[.int .i64 100, .int .i64 50, .int .i64 0, .int .i64 100] 3) (.cells #[.slice none 0 0, .slice none 0 0, .slice none 0 0, .slice none 0 0, .int .i64 0, .int .i64 0, .int .i64 0, .int .i64 0, .int .i64 0, .int .i64 0, .int .i64 0, .int .i64 0, .int .i64 0, .int .i64 0, .int .i64 0, .int .i64 0, .int .i64 0, .int .i64 0, .int .i64 0, .int .i64 0] 60)
  have hE5 : Ext W0 ((W0.alloc (.cells #[.int .i64 100, .int .i64 50, .int .i64 0, .int .i64 100] 3)).alloc (.cells #[.slice none 0 0, .slice none 0 0, .slice none 0 0, .slice none 0 0, .int .i64 0, .int .i64 0, .int .i64 0, .int .i64 0, .int .i64 0, .int .i64 0, .int .i64 0, .int .i64 0, .int .i64 0, .int .i64 0, .int .i64 0, .int .i64 0, .int .i64 0, .int .i64 0, .int .i64 0, .int .i64 0] 60)) := HE4.out.trans ((Below.refl _ _).alloc (Nat.le_refl _) _)
  generalize (W0.alloc (.cells #[.int .i64 100, .int .i64 50, .int .i64 0, .int .i64 100] 3)).alloc (.cells #[.slice none 0 0, .slice none 0 0, .slice none 0 0, .slice none 0 0, .int .i64 0, .int .i64 0, .int .i64 0, .int .i64 0, .int .i64 0, .int .i64 0, .int .i64 0, .int .i64 0, .int .i64 0, .int .i64 0, .int .i64 0, .int .i64 0, .int .i64 0, .int .i64 0, .int .i64 0, .int .i64 0] 60) = W5 at hnb hE5 ⊢
  have hth : W5.there (W0.heap.size + 1) 0 20 := fun j hj => by
   rw [Nat.zero_add]
   refine ⟨?_, by simp [World.frozen?, hnb]⟩
   simp only [World.cell?, hnb]
   simp [hj]
  refine wpList_store_mid rfl 60 (.tmp 5) (.tmp 52) rfl (W0.heap.size + 1) 0 #[.slice none 0 0, .slice none 0 0, .slice none 0 0, .slice none 0 0, .int .i64 0, .int .i64 0, .int .i64 0, .int .i64 0, .int .i64 0, .int .i64 0, .int .i64 0, .int .i64 ((N0 : Int) / 4 % 3 * 40), .int .i64 (1 + (N0 : Int) / 12 % 2), .int .i64 (3 + (N0 : Int) / 24 % 8), .int .i64 ((N0 : Int) / 192 % 6), .int .i64 (1 + (N0 : Int) / 1152 % 3), .int .i64 (60 + (N0 : Int) / 3456 % 200), .int .i64 ((N1 : Int) % 7), .int .i64 0, .int .i64 (sampleN d)] rfl rfl hth Tryd.confSize (by simp [Value.oneCell']) ?_
  refine wpList_nil ?_
  have hrs := World.rangeAt_setCells_same W5 (W0.heap.size + 1) 0 [.slice none 0 0, .slice none 0 0, .slice none 0 0, .slice none 0 0, .int .i64 0, .int .i64 0, .int .i64 0, .int .i64 0, .int .i64 0, .int .i64 0, .int .i64 0, .int .i64 ((N0 : Int) / 4 % 3 * 40), .int .i64 (1 + (N0 : Int) / 12 % 2), .int .i64 (3 + (N0 : Int) / 24 % 8), .int .i64 ((N0 : Int) / 192 % 6), .int .i64 (1 + (N0 : Int) / 1152 % 3), .int .i64 (60 + (N0 : Int) / 3456 % 200), .int .i64 ((N1 : Int) % 7), .int .i64 0, .int .i64 (sampleN d)] hth
  obtain ⟨cs, hcs1, hcs2⟩ := setCells_block (W0.heap.size + 1) 60 (0, 0) [.slice none 0 0, .slice none 0 0, .slice none 0 0, .slice none 0 0, .int .i64 0, .int .i64 0, .int .i64 0, .int .i64 0, .int .i64 0, .int .i64 0, .int .i64 0, .int .i64 ((N0 : Int) / 4 % 3 * 40), .int .i64 (1 + (N0 : Int) / 12 % 2), .int .i64 (3 + (N0 : Int) / 24 % 8), .int .i64 ((N0 : Int) / 192 % 6), .int .i64 (1 + (N0 : Int) / 1152 % 3), .int .i64 (60 + (N0 : Int) / 3456 % 200), .int .i64 ((N1 : Int) % 7), .int .i64 0, .int .i64 (sampleN d)] 0 W5 _ hnb
  have hk5 := keeps_setCells (W0.heap.size + 1) [.slice none 0 0, .slice none 0 0, .slice none 0 0, .slice none 0 0, .int .i64 0, .int .i64 0, .int .i64 0, .int .i64 0, .int .i64 0, .int .i64 0, .int .i64 0, .int .i64 ((N0 : Int) / 4 % 3 * 40), .int .i64 (1 + (N0 : Int) / 12 % 2), .int .i64 (3 + (N0 : Int) / 24 % 8), .int .i64 ((N0 : Int) / 192 % 6), .int .i64 (1 + (N0 : Int) / 1152 % 3), .int .i64 (60 + (N0 : Int) / 3456 % 200), .int .i64 ((N1 : Int) % 7), .int .i64 0, .int .i64 (sampleN d)] 0 W5
  show Exit.then _ _ _ _ (W5.setCells (W0.heap.size + 1) 0 [.slice none 0 0, .slice none 0 0, .slice none 0 0, .slice none 0 0, .int .i64 0, .int .i64 0, .int .i64 0, .int .i64 0, .int .i64 0, .int .i64 0, .int .i64 0, .int .i64 ((N0 : Int) / 4 % 3 * 40), .int .i64 (1 + (N0 : Int) / 12 % 2), .int .i64 (3 + (N0 : Int) / 24 % 8), .int .i64 ((N0 : Int) / 192 % 6), .int .i64 (1 + (N0 : Int) / 1152 % 3), .int .i64 (60 + (N0 : Int) / 3456 % 200), .int .i64 ((N1 : Int) % 7), .int .i64 0, .int .i64 (sampleN d)])
  generalize W5.setCells (W0.heap.size + 1) 0 [.slice none 0 0, .slice none 0 0, .slice none 0 0, .slice none 0 0, .int .i64 0, .int .i64 0, .int .i64 0, .int .i64 0, .int .i64 0, .int .i64 0, .int .i64 0, .int .i64 ((N0 : Int) / 4 % 3 * 40), .int .i64 (1 + (N0 : Int) / 12 % 2), .int .i64 (3 + (N0 : Int) / 24 % 8), .int .i64 ((N0 : Int) / 192 % 6), .int .i64 (1 + (N0 : Int) / 1152 % 3), .int .i64 (60 + (N0 : Int) / 3456 % 200), .int .i64 ((N1 : Int) % 7), .int .i64 0, .int .i64 (sampleN d)] = W6 at hrs hcs1 hk5 ⊢
  have hbx : BoxC W6 (W0.heap.size + 1) (conf0 L) := BoxC.of_range hcs1 hcs2 (by
   have e : encC (conf0 L) = [.slice none 0 0, .slice none 0 0, .slice none 0 0, .slice none 0 0, .int .i64 0, .int .i64 0, .int .i64 0, .int .i64 0, .int .i64 0, .int .i64 0, .int .i64 0, .int .i64 ((N0 : Int) / 4 % 3 * 40), .int .i64 (1 + (N0 : Int) / 12 % 2), .int .i64 (3 + (N0 : Int) / 24 % 8), .int .i64 ((N0 : Int) / 192 % 6), .int .i64 (1 + (N0 : Int) / 1152 % 3), .int .i64 (60 + (N0 : Int) / 3456 % 200), .int .i64 ((N1 : Int) % 7), .int .i64 0, .int .i64 (sampleN d)] := by rw [← HD.out, ← HN0.out, ← HN1.out]; rfl
   rw [e]
   exact hrs)
  have HBX := hide hbx
  have HE6 := hide (Keeps.ext hE5 hk5 (fun g hg => by omega))
  clear hbx hrs hcs1 hcs2 hk5 hth hnb hE5
  simp only [Act.put]
  go_wp2
  go_meet
  case rel => exact ⟨_, rfl, HE6.out, by omega, HBX.out⟩
 case rest =>
  obtain ⟨b5, rfl, hE, hb5, hh5⟩ := hcut
  have hbx : BoxC wc b5 (conf0 L) := hh5
  have hl0 := (Array.getElem?_eq_some_iff.1 HB0.out).1
  have hcs : CS w wc w.heap.size b5 (conf0 L) := ⟨HX0.out.trans hE, hbx, ⟨World.ownsRow_nil _ _ _ _, (fun s hs => by cases hs), World.ownsRow_nil _ _ _ _, World.ownsRow_nil _ _ _ _, (fun s hs => by cases hs), World.ownsRow_nil _ _ _ _⟩, ⟨_, (hE.block _ hl0).trans HB0.out, rfl⟩, Nat.le_trans HX0.out.size hb5, Nat.le_refl _, by omega⟩
  (try simp only [Exit.inBlock, Exit.then])
  apply_assumption
  exact of_frame236 _ rfl (conf_tail4 L a c w wc b5 _ rfl rfl rfl rfl hcs HS.out HL.out)
end Go.Proofs.YtceaeiaoanhlnaaDoor
namespace Go.Proofs.YtceaeiaoanhlnaaDoor
open Go.ChangeShapes Go.WideShapes Go.ChangeAt Go.RowKit Go.Lib Go.Shelf
set_option maxRecDepth 100000 in
set_option maxHeartbeats 16000000 in
theorem conf_any (L : List Int) (v : Value) (w : World) (hs : Ints w v L) (hL : ∀ x ∈ L, I64 x) :
  Calls Tryd.prog 35 #[v] w (ConfP L w) := by
 obtain ⟨_, a, c, rfl⟩ := hs.shape
 have HP0 := hide (fun X (hX : Ext w X) => (pick_any L 0 (.slice a L.length c) X (hs.ext hX) hL : Calls Tryd.prog 56 #[.slice a L.length c, .int .i64 0] X _))
 have HP1 := hide (fun X (hX : Ext w X) => (pick_any L 1 (.slice a L.length c) X (hs.ext hX) hL : Calls Tryd.prog 56 #[.slice a L.length c, .int .i64 1] X _))
 have HS := hide hs
 have HL := hide hL
 have p0 := pk_lt L 0
 have p1 := pk_lt L 1
 obtain ⟨N0, hN0⟩ : ∃ N, pk L 0 = N := ⟨_, rfl⟩
 obtain ⟨N1, hN1⟩ : ∃ N, pk L 1 = N := ⟨_, rfl⟩
 rw [hN0] at HP0 p0
 rw [hN1] at HP1 p1
 have HN0 := hide hN0
 have HN1 := hide hN1
 have p0z : (N0 : Int) < 1000000 := by omega
 have p1z : (N1 : Int) < 1000000 := by omega
 clear hs hL hN0 hN1
 go_enter Tryd.func35, Tryd.ntmps35
 go_upto_region 1 with (fail)
 have hx0 : Ext w (w.alloc (.cells #[.slice none 0 0, .slice none 0 0, .slice none 0 0, .slice none 0 0, .int .i64 0, .int .i64 0, .int .i64 0, .int .i64 0, .int .i64 0, .int .i64 0, .int .i64 0, .int .i64 0, .int .i64 0, .int .i64 0, .int .i64 0, .int .i64 0, .int .i64 0, .int .i64 0, .int .i64 0, .int .i64 0] 60)) := (Below.refl _ w).alloc (Nat.le_refl _) _
 have hb0 := heap_alloc_new w (.cells #[.slice none 0 0, .slice none 0 0, .slice none 0 0, .slice none 0 0, .int .i64 0, .int .i64 0, .int .i64 0, .int .i64 0, .int .i64 0, .int .i64 0, .int .i64 0, .int .i64 0, .int .i64 0, .int .i64 0, .int .i64 0, .int .i64 0, .int .i64 0, .int .i64 0, .int .i64 0, .int .i64 0] 60)
 generalize w.alloc (.cells #[.slice none 0 0, .slice none 0 0, .slice none 0 0, .slice none 0 0, .int .i64 0, .int .i64 0, .int .i64 0, .int .i64 0, .int .i64 0, .int .i64 0, .int .i64 0, .int .i64 0, .int .i64 0, .int .i64 0, .int .i64 0, .int .i64 0, .int .i64 0, .int .i64 0, .int .i64 0, .int .i64 0] 60) = W0 at hx0 hb0 ⊢
 have HX0 := hide hx0
 have HB0 := hide hb0
 clear hx0 hb0
 go_wp2_with fail
 refine (HP0.out _ HX0.out).mono ?_
 rintro e w1 ⟨rfl, rfl⟩
 go_upto_region 2 with (fail)
 go_cut [4] from 16 to 19 (fun s4 w' => s4 = .int .i64 (1 + (N0 : Int) % 4) ∧ w' = W0)
 case first =>
  go_wp2
  go_meet
  case rel => exact ⟨rfl, rfl⟩
 case rest =>
  obtain ⟨rfl, rfl⟩ := hcut
  have hM : (1 + (N0 : Int) % 4) = (svcsM L : Nat) := by unfold svcsM; rw [HN0.out]; omega
  (try simp only [Exit.inBlock, Exit.then])
  apply_assumption
  refine of_frame236 _ rfl (conf_tail3 L a c w _ _ rfl rfl ?_ ?_ HX0.out HB0.out HS.out HL.out)
  ·rw [HN0.out]; rfl
  ·rw [← hM]; rfl
end Go.Proofs.YtceaeiaoanhlnaaDoor
