/- Merged texts (PnV, PnW, PnX). -/
import Derived.Test.YtkhebanpplokdaaGreatDoorZpa
import Derived.Test.YtkhebanpplokdaaGreatDoorZy
import Derived.Test.YtkhebanpplokdaaGreatDoorZpn
import Derived.Test.YtkhebanpplokdaaGreatDoorPnR
import Derived.Test.YtkhebanpplokdaaGreatDoorZhr
namespace Go.Proofs.YtkhebanpplokdaaGreatDoor
open Go.ChangeShapes Go.WideShapes Go.ChangeAt Go.RowKit Go.Lib Go.Shelf Go.Maps
structure ActD where
 act : Int
 pr : Int
 ver : Int
 bent : Bool
def encA (a : ActD) : List Value := [.int .i64 a.act, .int .i64 a.pr, .int .i64 a.ver, .bool a.bent]
theorem encA_len (a : ActD) : (encA a).length = 4 := rfl
theorem infoA' : (Tryz.prog.info? 62).map (fun i => (i.zero, i.size, i.bytes)) = some (some (.agg #[.int .i64 0, .int .i64 0, .int .i64 0, .bool false]), 4, 32) := by kernel_rfl
def ActFit (a : ActD) : Prop := 0 ≤ a.act ∧ a.act ≤ 6 ∧ -1 ≤ a.pr ∧ a.pr ≤ 9 ∧ -2 ≤ a.ver ∧ a.ver ≤ 50
def d12 (d : Nat) : Int := [0, 1, 2, 1, 2, 1, 3, 4, 5, 6, 1, 4].getD d 0
def d3 (d : Nat) : Int := [-1, 4, 9].getD d 0
theorem d12_bd (d : Nat) (hd : d < 12) : 0 ≤ d12 d ∧ d12 d ≤ 6 := by
 have h : d = 0 ∨ d = 1 ∨ d = 2 ∨ d = 3 ∨ d = 4 ∨ d = 5 ∨ d = 6 ∨ d = 7 ∨ d = 8 ∨ d = 9 ∨ d = 10 ∨ d = 11 := by omega
 rcases h with rfl | rfl | rfl | rfl | rfl | rfl | rfl | rfl | rfl | rfl | rfl | rfl <;> decide
theorem d3_bd (d : Nat) (hd : d < 3) : -1 ≤ d3 d ∧ d3 d ≤ 9 := by
 have h : d = 0 ∨ d = 1 ∨ d = 2 := by omega
 rcases h with rfl | rfl | rfl <;> decide
theorem cell12 (w : World) (d : Nat) (hd : d < 12) : (w.alloc (.cells #[.int .i64 0, .int .i64 1, .int .i64 2, .int .i64 1, .int .i64 2, .int .i64 1, .int .i64 3, .int .i64 4, .int .i64 5, .int .i64 6, .int .i64 1, .int .i64 4] 3)).cell? ⟨w.heap.size, d, none⟩ = some (.int .i64 (d12 d)) := by
 have h : d = 0 ∨ d = 1 ∨ d = 2 ∨ d = 3 ∨ d = 4 ∨ d = 5 ∨ d = 6 ∨ d = 7 ∨ d = 8 ∨ d = 9 ∨ d = 10 ∨ d = 11 := by omega
 have hb := heap_alloc_new w (.cells #[.int .i64 0, .int .i64 1, .int .i64 2, .int .i64 1, .int .i64 2, .int .i64 1, .int .i64 3, .int .i64 4, .int .i64 5, .int .i64 6, .int .i64 1, .int .i64 4] 3)
 simp only [World.cell?, hb]
 rcases h with rfl | rfl | rfl | rfl | rfl | rfl | rfl | rfl | rfl | rfl | rfl | rfl <;> rfl
theorem cell3 (w : World) (d : Nat) (hd : d < 3) : (w.alloc (.cells #[.int .i64 (-1), .int .i64 4, .int .i64 9] 3)).cell? ⟨w.heap.size, d, none⟩ = some (.int .i64 (d3 d)) := by
 have h : d = 0 ∨ d = 1 ∨ d = 2 := by omega
 have hb := heap_alloc_new w (.cells #[.int .i64 (-1), .int .i64 4, .int .i64 9] 3)
 simp only [World.cell?, hb]
 rcases h with rfl | rfl | rfl <;> rfl
def BoxA (w : World) (b : Nat) (a : ActD) : Prop := w.heap[b]? = some (.cells (encA a).toArray 62 (0, 0))
theorem BoxA.lt {w : World} {b : Nat} {a : ActD} (h : BoxA w b a) : b < w.heap.size := (Array.getElem?_eq_some_iff.1 h).1
theorem BoxA.ext {w w' : World} {b : Nat} {a : ActD} (h : BoxA w b a) (e : Ext w w') : BoxA w' b a := (e.block b h.lt).trans h
theorem BoxA.cell {w : World} {b : Nat} {a : ActD} (h : BoxA w b a) (j : Nat) (u : Value) (hu : (encA a)[j]? = some u) : w.cell? ⟨b, j, none⟩ = some u := ArrB.cell h j u (by simpa using hu)
theorem BoxA.frozen {w : World} {b : Nat} {a : ActD} (h : BoxA w b a) (j : Nat) : w.frozen? ⟨b, j, none⟩ = false := ArrB.frozen h j
theorem BoxA.set {w : World} {b : Nat} {a a' : ActD} (h : BoxA w b a) (j : Nat) (v : Value) (he : encA a' = (encA a).set j v) : BoxA (w.setCell ⟨b, j, none⟩ v) b a' := by
 have := ArrB.set h j v
 unfold BoxA
 rw [he]
 simpa using this
set_option maxRecDepth 100000 in
set_option maxHeartbeats 8000000 in
theorem acts_any (L : List Int) (v : Value) (w : World) (hs : Ints w v L) (hL : ∀ x ∈ L, I64 x) :
  Calls Tryz.prog 16 #[v] w fun e w' => ∃ (v' : Value) (A : List ActD), e = .returned v' ∧ w'.ownsRow w.heap.size 62 4 v' A.length (A.flatMap encA) ∧ A.length ≤ 40 ∧ A.length ≤ L.length ∧ (∀ a ∈ A, ActFit a) ∧ Ext w w' := by
 obtain ⟨i0, hi, hz0, hz1, hz2⟩ := info_z' infoA'
 obtain ⟨hl63, a, cap, rfl⟩ := hs.shape
 have HS := hide hs
 have HL := hide hL
 clear hs hL
 go_enter Tryz.func16, Tryz.ntmps16
 go_wp2_with fail
 go_loopw [3, 4, 5] (fun v3 v4 v5 wr => ∃ (A : List ActD) (md : Int), A.length ≤ L.length ∧ A.length ≤ 40 ∧ v5 = .int .i64 A.length ∧ v4 = .int .i64 md ∧ 0 ≤ md ∧ md ≤ A.length ∧ Hid (wr.ownsRow w.heap.size 62 4 v3 A.length (A.flatMap encA) ∧ (∀ a ∈ A, ActFit a) ∧ Ext w wr)) (fun _ _ i _ => L.length - (intOf i).toNat)
 case atStart => exact ⟨[], 0, Nat.zero_le _, Nat.zero_le _, rfl, rfl, Int.le_refl _, by simp, ⟨⟨by simp, .inl ⟨rfl, rfl⟩⟩, fun a ha => (by cases ha), Below.refl _ _⟩⟩
 case round =>
  obtain ⟨A, md, hAL, hA40, rfl, rfl, hm0, hm1, hx⟩ := hrel
  obtain ⟨hown, hfit, hext⟩ := hx.out
  clear hx
  generalize wr = wo at *
  have HOWN := hide hown
  have HFIT := hide hfit
  have HEX := hide hext
  obtain ⟨an, cn, rfl⟩ := owns_shape hown
  clear hown hfit hext
  obtain ⟨i, hi_⟩ : ∃ i, A.length = i := ⟨_, rfl⟩
  rw [hi_] at hAL hA40 hm1 ⊢
  have HI := hide hi_
  clear hi_
  by_cases hlt : i < L.length
  ·have hltz : (i : Int) < L.length := by omega
   by_cases h40 : i < 40
   ·have h40z : (i : Int) < 40 := by omega
    obtain ⟨b, off, rfl, hbb, c1⟩ := ints_at (HS.out.ext HEX.out) i hlt
    have hli := HL.out _ (List.getElem_mem hlt)
    generalize L[i] = x at c1 hli
    have hab := around_bd x 1000000 (by decide)
    have har := around_any x 1000000 wo hli (by omega)
    obtain ⟨K, hK⟩ : ∃ K : Nat, around x 1000000 = (K : Int) := ⟨(around x 1000000).toNat, by omega⟩
    rw [hK] at hab har
    have HAR := hide har
    clear har hK hli
    have hwi : IntKind.i64.wrap ((i : Int) + 1) = ((i + 1 : Nat) : Int) := by rw [IntKind.wrap_i64]; omega
    have HWI := hide hwi
    clear hwi
    go_wp2_with fail
    refine HAR.out.mono ?_
    rintro e w' ⟨rfl, rfl⟩
    clear HAR c1
    have m12 : (K : Int).tmod 12 = ((K % 12 : Nat) : Int) := by rw [Int.tmod_eq_emod_of_nonneg (by omega)]; omega
    have q12 : (K : Int).tdiv 12 = ((K / 12 : Nat) : Int) := by rw [Int.tdiv_eq_ediv_of_nonneg (by omega)]; omega
    have w12 : IntKind.i64.wrap ((K / 12 : Nat) : Int) = ((K / 12 : Nat) : Int) := by rw [IntKind.wrap_i64]; omega
    have m4 : ((K / 12 : Nat) : Int).tmod 4 = ((K / 12 % 4 : Nat) : Int) := by rw [Int.tmod_eq_emod_of_nonneg (by omega)]; omega
    have q48 : (K : Int).tdiv 48 = ((K / 48 : Nat) : Int) := by rw [Int.tdiv_eq_ediv_of_nonneg (by omega)]; omega
    have w48 : IntKind.i64.wrap ((K / 48 : Nat) : Int) = ((K / 48 : Nat) : Int) := by rw [IntKind.wrap_i64]; omega
    have m7 : ((K / 48 : Nat) : Int).tmod 7 = ((K / 48 % 7 : Nat) : Int) := by rw [Int.tmod_eq_emod_of_nonneg (by omega)]; omega
    have m23 : ((K / 48 : Nat) : Int).tmod 23 = ((K / 48 % 23 : Nat) : Int) := by rw [Int.tmod_eq_emod_of_nonneg (by omega)]; omega
    have q11 : (K : Int).tdiv 1104 = ((K / 1104 : Nat) : Int) := by rw [Int.tdiv_eq_ediv_of_nonneg (by omega)]; omega
    have w11 : IntKind.i64.wrap ((K / 1104 : Nat) : Int) = ((K / 1104 : Nat) : Int) := by rw [IntKind.wrap_i64]; omega
    have m31 : ((K / 1104 : Nat) : Int).tmod 3 = ((K / 1104 % 3 : Nat) : Int) := by rw [Int.tmod_eq_emod_of_nonneg (by omega)]; omega
    have q33 : (K : Int).tdiv 336 = ((K / 336 : Nat) : Int) := by rw [Int.tdiv_eq_ediv_of_nonneg (by omega)]; omega
    have w33 : IntKind.i64.wrap ((K / 336 : Nat) : Int) = ((K / 336 : Nat) : Int) := by rw [IntKind.wrap_i64]; omega
    have m33 : ((K / 336 : Nat) : Int).tmod 3 = ((K / 336 % 3 : Nat) : Int) := by rw [Int.tmod_eq_emod_of_nonneg (by omega)]; omega
    have l12 : K % 12 < 12 := by omega
    have l3 : K / 1104 % 3 < 3 := by omega
    have l4 : K / 12 % 4 < 4 := by omega
    have l33 : K / 336 % 3 < 3 := by omega
    have b12 := d12_bd _ l12
    have b3 := d3_bd _ l3
    have hc12 := cell12 wo (K % 12) l12
    have hc3 := fun W : World => cell3 W (K / 1104 % 3) l3
    generalize K / 12 = k12 at *
    generalize K / 48 = k48 at *
    generalize K / 1104 = k11 at *
    generalize K / 336 = k33 at *
    generalize k12 % 4 = p4 at *
    generalize k48 % 7 = k7 at *
    generalize k48 % 23 = k23 at *
    generalize k11 % 3 = j3 at *
    generalize k33 % 3 = j33 at *
    generalize K % 12 = j12 at *
    have l12z : (j12 : Int) < 12 := by omega
    have l3z : (j3 : Int) < 3 := by omega
    obtain ⟨bb, hbb'⟩ : ∃ bb : Bool, ((k7 : Int) == 3) = bb := ⟨_, rfl⟩
    have HC3 := hide hc3
    obtain ⟨dx, hdx⟩ : ∃ dx, d12 j12 = dx := ⟨_, rfl⟩
    rw [hdx] at hc12 b12
    clear hdx hc3
    go_upto_region 8 with (fail)
    have hx1 : Ext wo ((wo.alloc (.cells #[.int .i64 0, .int .i64 1, .int .i64 2, .int .i64 1, .int .i64 2, .int .i64 1, .int .i64 3, .int .i64 4, .int .i64 5, .int .i64 6, .int .i64 1, .int .i64 4] 3)).alloc (.cells #[.int .i64 dx, .int .i64 p4, .int .i64 0, .bool bb] 62)) := ((Below.refl _ _).alloc (Nat.le_refl _) _).alloc (Nat.le_of_lt (by simp)) _
    have hb1 := heap_alloc2_new wo (.cells #[.int .i64 0, .int .i64 1, .int .i64 2, .int .i64 1, .int .i64 2, .int .i64 1, .int .i64 3, .int .i64 4, .int .i64 5, .int .i64 6, .int .i64 1, .int .i64 4] 3) (.cells #[.int .i64 dx, .int .i64 p4, .int .i64 0, .bool bb] 62)
    generalize (wo.alloc (.cells #[.int .i64 0, .int .i64 1, .int .i64 2, .int .i64 1, .int .i64 2, .int .i64 1, .int .i64 3, .int .i64 4, .int .i64 5, .int .i64 6, .int .i64 1, .int .i64 4] 3)).alloc (.cells #[.int .i64 dx, .int .i64 p4, .int .i64 0, .bool bb] 62) = W1 at hx1 hb1 ⊢
    obtain ⟨bx, hbx⟩ : ∃ b, wo.heap.size + 1 = b := ⟨_, rfl⟩
    rw [hbx] at hb1 ⊢
    have hbo : wo.heap.size ≤ bx := by omega
    have HB1 := hide (show BoxA W1 bx ⟨dx, p4, 0, bb⟩ from hb1)
    have HX1 := hide hx1
    clear hb1 hbx hx1 hc12 hbb' l12z m12 q12 w12 m4 m7
    by_cases e5 : k23 = 5
    ·have d5 : ((k23 : Int) == 5) = true := by simpa using (by omega : (k23 : Int) = 5)
     have c3 := HC3.out W1
     obtain ⟨px, hpx⟩ : ∃ px, d3 j3 = px := ⟨_, rfl⟩
     rw [hpx] at c3 b3
     have z1 := HB1.out.frozen 1
     have c1 := HB1.out.cell 1 _ rfl
     have hks := Keeps.of_set (X := fun q => q = bx) W1 bx 1 (.int .i64 px) rfl
     have hxs : Ext wo (W1.setCell ⟨bx, 1, none⟩ (.int .i64 px)) := Keeps.ext HX1.out hks (fun g hg => by omega)
     have hal : Ext (W1.setCell ⟨bx, 1, none⟩ (.int .i64 px)) ((W1.setCell ⟨bx, 1, none⟩ (.int .i64 px)).alloc (.cells #[.int .i64 (-1), .int .i64 4, .int .i64 9] 3)) := (Below.refl _ _).alloc (Nat.le_refl _) _
     have hbs : BoxA (W1.setCell ⟨bx, 1, none⟩ (.int .i64 px)) bx ⟨dx, px, 0, bb⟩ := HB1.out.set 1 _ rfl
     have HXS := hide (hxs.trans hal)
     have HBS := hide (hbs.ext hal)
     have hlb := HB1.out.lt
     clear hks hxs hal hbs hpx e5
     go_upto_region 10 with (fail)
     clear c3 c1 z1 hlb
     generalize (W1.setCell ⟨bx, 1, none⟩ (.int .i64 px)).alloc (.cells #[.int .i64 (-1), .int .i64 4, .int .i64 9] 3) = W2 at HXS HBS ⊢
     by_cases e0 : dx = 0
     ·have d0 : (dx == 0) = true := by simpa using e0
      clear e0
      have hwm : IntKind.i64.wrap (md + 1) = md + 1 := by rw [IntKind.wrap_i64]; omega
      have z2 := HBS.out.frozen 2
      have c0 := HBS.out.cell 0 _ rfl
      have c1 := HBS.out.cell 1 _ rfl
      have c2 := HBS.out.cell 2 _ rfl
      have c3 := HBS.out.cell 3 _ rfl
      obtain ⟨ve, hve⟩ : ∃ ve : Int, (md + 1) - (j33 : Int) = ve := ⟨_, rfl⟩
      have hwv : IntKind.i64.wrap ((md + 1) - (j33 : Int)) = ve := by rw [IntKind.wrap_i64]; omega
      have hvb : -2 ≤ ve ∧ ve ≤ 50 := by omega
      have hks := Keeps.of_set (X := fun q => q = bx) W2 bx 2 (.int .i64 ve) rfl
      have hxs : Ext wo (W2.setCell ⟨bx, 2, none⟩ (.int .i64 ve)) := Keeps.ext HXS.out hks (fun g hg => by omega)
      have hbs : BoxA (W2.setCell ⟨bx, 2, none⟩ (.int .i64 ve)) bx ⟨dx, px, ve, bb⟩ := HBS.out.set 2 _ rfl
      have HXV := hide hxs
      have HBV := hide hbs
      have HVB := hide hvb
      clear hks hxs hbs hve hvb
      go_upto_region 13 with (fail)
      clear c0 c1 c2 c3 z2 hwv
      generalize W2.setCell ⟨bx, 2, none⟩ (.int .i64 ve) = W3 at HXV HBV ⊢
      have c0 := HBV.out.cell 0 _ rfl
      have c1 := HBV.out.cell 1 _ rfl
      have c2 := HBV.out.cell 2 _ rfl
      have c3 := HBV.out.cell 3 _ rfl
      have hown := owns_ext HOWN.out HXV.out
      rw [HI.out] at hown
      have hwsz : w.heap.size ≤ W3.heap.size := by have := HEX.out.size; have := HXV.out.size; omega
      have hwi := HWI.out
      have hsn : (A ++ [(⟨dx, px, ve, bb⟩ : ActD)]).flatMap encA = A.flatMap encA ++ [.int .i64 dx, .int .i64 px, .int .i64 ve, .bool bb] := by
       rw [List.flatMap_append]
       rfl
      have HSN := hide hsn
      have HOV := hide hown
      clear hsn
      go_wp2_with (at_builtin; refine wpList_append_own _ (by rfl) _ _ 56 (by rfl) w.heap.size 62 i0 _ 4 32 Tryz.underlying56 hi hz0 hz1 hz2 rfl (by decide) _ i _ (by rfl) (hown.alloc _) ⟨W3.heap.size, 0, none⟩ 1 1 [.int .i64 dx, .int .i64 px, .int .i64 ve, .bool bb] (by rfl) (by rfl) (cells_new W3 [.int .i64 dx, .int .i64 px, .int .i64 ve, .bool bb] 62) (by simp [Value.oneCell']) (by unfold maxLen; omega) (by omega) (by simp; omega) ?_; intro v2 w2 hown2 hgrow2 _)
      go_roundw
      case rel =>
       have hl : (A ++ [(⟨dx, px, ve, bb⟩ : ActD)]).length = i + 1 := by rw [List.length_append, HI.out]; rfl
       refine ⟨A ++ [⟨dx, px, ve, bb⟩], (md + 1), by rw [hl]; omega, by rw [hl]; omega, by rw [hl] <;> first | rfl | go_num, rfl, by omega, by rw [hl]; omega, ⟨?_, ?_, ?_⟩⟩
       ·rw [hl, HSN.out]
        exact hown2
       ·intro y hy
        rcases List.mem_append.1 hy with hy | hy
        ·exact HFIT.out y hy
        ·rw [List.mem_singleton.1 hy]
         exact ⟨b12.1, b12.2, b3.1, b3.2, HVB.out.1, HVB.out.2⟩
       ·exact ext_app (HEX.out.trans HXV.out) ((Below.refl _ _).alloc (Nat.le_refl _) _) hown hgrow2
      case measure => (simp [intOf]) <;> omega
     ·have d0 : (dx == 0) = false := by simpa using e0
      clear e0
      have z2 := HBS.out.frozen 2
      have c0 := HBS.out.cell 0 _ rfl
      have c1 := HBS.out.cell 1 _ rfl
      have c2 := HBS.out.cell 2 _ rfl
      have c3 := HBS.out.cell 3 _ rfl
      obtain ⟨ve, hve⟩ : ∃ ve : Int, md - (j33 : Int) = ve := ⟨_, rfl⟩
      have hwv : IntKind.i64.wrap (md - (j33 : Int)) = ve := by rw [IntKind.wrap_i64]; omega
      have hvb : -2 ≤ ve ∧ ve ≤ 50 := by omega
      have hks := Keeps.of_set (X := fun q => q = bx) W2 bx 2 (.int .i64 ve) rfl
      have hxs : Ext wo (W2.setCell ⟨bx, 2, none⟩ (.int .i64 ve)) := Keeps.ext HXS.out hks (fun g hg => by omega)
      have hbs : BoxA (W2.setCell ⟨bx, 2, none⟩ (.int .i64 ve)) bx ⟨dx, px, ve, bb⟩ := HBS.out.set 2 _ rfl
      have HXV := hide hxs
      have HBV := hide hbs
      have HVB := hide hvb
      clear hks hxs hbs hve hvb
      go_upto_region 13 with (fail)
      clear c0 c1 c2 c3 z2 hwv
      generalize W2.setCell ⟨bx, 2, none⟩ (.int .i64 ve) = W3 at HXV HBV ⊢
      have c0 := HBV.out.cell 0 _ rfl
      have c1 := HBV.out.cell 1 _ rfl
      have c2 := HBV.out.cell 2 _ rfl
      have c3 := HBV.out.cell 3 _ rfl
      have hown := owns_ext HOWN.out HXV.out
      rw [HI.out] at hown
      have hwsz : w.heap.size ≤ W3.heap.size := by have := HEX.out.size; have := HXV.out.size; omega
      have hwi := HWI.out
      have hsn : (A ++ [(⟨dx, px, ve, bb⟩ : ActD)]).flatMap encA = A.flatMap encA ++ [.int .i64 dx, .int .i64 px, .int .i64 ve, .bool bb] := by
       rw [List.flatMap_append]
       rfl
      have HSN := hide hsn
      have HOV := hide hown
      clear hsn
      go_wp2_with (at_builtin; refine wpList_append_own _ (by rfl) _ _ 56 (by rfl) w.heap.size 62 i0 _ 4 32 Tryz.underlying56 hi hz0 hz1 hz2 rfl (by decide) _ i _ (by rfl) (hown.alloc _) ⟨W3.heap.size, 0, none⟩ 1 1 [.int .i64 dx, .int .i64 px, .int .i64 ve, .bool bb] (by rfl) (by rfl) (cells_new W3 [.int .i64 dx, .int .i64 px, .int .i64 ve, .bool bb] 62) (by simp [Value.oneCell']) (by unfold maxLen; omega) (by omega) (by simp; omega) ?_; intro v2 w2 hown2 hgrow2 _)
      go_roundw
      case rel =>
       have hl : (A ++ [(⟨dx, px, ve, bb⟩ : ActD)]).length = i + 1 := by rw [List.length_append, HI.out]; rfl
       refine ⟨A ++ [⟨dx, px, ve, bb⟩], md, by rw [hl]; omega, by rw [hl]; omega, by rw [hl] <;> first | rfl | go_num, rfl, by omega, by rw [hl]; omega, ⟨?_, ?_, ?_⟩⟩
       ·rw [hl, HSN.out]
        exact hown2
       ·intro y hy
        rcases List.mem_append.1 hy with hy | hy
        ·exact HFIT.out y hy
        ·rw [List.mem_singleton.1 hy]
         exact ⟨b12.1, b12.2, b3.1, b3.2, HVB.out.1, HVB.out.2⟩
       ·exact ext_app (HEX.out.trans HXV.out) ((Below.refl _ _).alloc (Nat.le_refl _) _) hown hgrow2
      case measure => (simp [intOf]) <;> omega
    ·have d5 : ((k23 : Int) == 5) = false := by simpa using (by omega : ¬ (k23 : Int) = 5)
     have HXS := hide HX1.out
     have HBS := hide HB1.out
     clear e5 HX1 HB1
     go_upto_region 10 with (fail)
     generalize W1 = W2 at *
     by_cases e0 : dx = 0
     ·have d0 : (dx == 0) = true := by simpa using e0
      clear e0
      have hwm : IntKind.i64.wrap (md + 1) = md + 1 := by rw [IntKind.wrap_i64]; omega
      have z2 := HBS.out.frozen 2
      have c0 := HBS.out.cell 0 _ rfl
      have c1 := HBS.out.cell 1 _ rfl
      have c2 := HBS.out.cell 2 _ rfl
      have c3 := HBS.out.cell 3 _ rfl
      obtain ⟨ve, hve⟩ : ∃ ve : Int, (md + 1) - (j33 : Int) = ve := ⟨_, rfl⟩
      have hwv : IntKind.i64.wrap ((md + 1) - (j33 : Int)) = ve := by rw [IntKind.wrap_i64]; omega
      have hvb : -2 ≤ ve ∧ ve ≤ 50 := by omega
      have hks := Keeps.of_set (X := fun q => q = bx) W2 bx 2 (.int .i64 ve) rfl
      have hxs : Ext wo (W2.setCell ⟨bx, 2, none⟩ (.int .i64 ve)) := Keeps.ext HXS.out hks (fun g hg => by omega)
      have hbs : BoxA (W2.setCell ⟨bx, 2, none⟩ (.int .i64 ve)) bx ⟨dx, (p4 : Int), ve, bb⟩ := HBS.out.set 2 _ rfl
      have HXV := hide hxs
      have HBV := hide hbs
      have HVB := hide hvb
      clear hks hxs hbs hve hvb
      go_upto_region 13 with (fail)
      clear c0 c1 c2 c3 z2 hwv
      generalize W2.setCell ⟨bx, 2, none⟩ (.int .i64 ve) = W3 at HXV HBV ⊢
      have c0 := HBV.out.cell 0 _ rfl
      have c1 := HBV.out.cell 1 _ rfl
      have c2 := HBV.out.cell 2 _ rfl
      have c3 := HBV.out.cell 3 _ rfl
      have hown := owns_ext HOWN.out HXV.out
      rw [HI.out] at hown
      have hwsz : w.heap.size ≤ W3.heap.size := by have := HEX.out.size; have := HXV.out.size; omega
      have hwi := HWI.out
      have hsn : (A ++ [(⟨dx, (p4 : Int), ve, bb⟩ : ActD)]).flatMap encA = A.flatMap encA ++ [.int .i64 dx, .int .i64 (p4 : Int), .int .i64 ve, .bool bb] := by
       rw [List.flatMap_append]
       rfl
      have HSN := hide hsn
      have HOV := hide hown
      clear hsn
      go_wp2_with (at_builtin; refine wpList_append_own _ (by rfl) _ _ 56 (by rfl) w.heap.size 62 i0 _ 4 32 Tryz.underlying56 hi hz0 hz1 hz2 rfl (by decide) _ i _ (by rfl) (hown.alloc _) ⟨W3.heap.size, 0, none⟩ 1 1 [.int .i64 dx, .int .i64 (p4 : Int), .int .i64 ve, .bool bb] (by rfl) (by rfl) (cells_new W3 [.int .i64 dx, .int .i64 (p4 : Int), .int .i64 ve, .bool bb] 62) (by simp [Value.oneCell']) (by unfold maxLen; omega) (by omega) (by simp; omega) ?_; intro v2 w2 hown2 hgrow2 _)
      go_roundw
      case rel =>
       have hl : (A ++ [(⟨dx, (p4 : Int), ve, bb⟩ : ActD)]).length = i + 1 := by rw [List.length_append, HI.out]; rfl
       refine ⟨A ++ [⟨dx, (p4 : Int), ve, bb⟩], (md + 1), by rw [hl]; omega, by rw [hl]; omega, by rw [hl] <;> first | rfl | go_num, rfl, by omega, by rw [hl]; omega, ⟨?_, ?_, ?_⟩⟩
       ·rw [hl, HSN.out]
        exact hown2
       ·intro y hy
        rcases List.mem_append.1 hy with hy | hy
        ·exact HFIT.out y hy
        ·rw [List.mem_singleton.1 hy]
         exact ⟨b12.1, b12.2, (by show -1 ≤ (p4 : Int); omega), (by show (p4 : Int) ≤ 9; omega), HVB.out.1, HVB.out.2⟩
       ·exact ext_app (HEX.out.trans HXV.out) ((Below.refl _ _).alloc (Nat.le_refl _) _) hown hgrow2
      case measure => (simp [intOf]) <;> omega
     ·have d0 : (dx == 0) = false := by simpa using e0
      clear e0
      have z2 := HBS.out.frozen 2
      have c0 := HBS.out.cell 0 _ rfl
      have c1 := HBS.out.cell 1 _ rfl
      have c2 := HBS.out.cell 2 _ rfl
      have c3 := HBS.out.cell 3 _ rfl
      obtain ⟨ve, hve⟩ : ∃ ve : Int, md - (j33 : Int) = ve := ⟨_, rfl⟩
      have hwv : IntKind.i64.wrap (md - (j33 : Int)) = ve := by rw [IntKind.wrap_i64]; omega
      have hvb : -2 ≤ ve ∧ ve ≤ 50 := by omega
      have hks := Keeps.of_set (X := fun q => q = bx) W2 bx 2 (.int .i64 ve) rfl
      have hxs : Ext wo (W2.setCell ⟨bx, 2, none⟩ (.int .i64 ve)) := Keeps.ext HXS.out hks (fun g hg => by omega)
      have hbs : BoxA (W2.setCell ⟨bx, 2, none⟩ (.int .i64 ve)) bx ⟨dx, (p4 : Int), ve, bb⟩ := HBS.out.set 2 _ rfl
      have HXV := hide hxs
      have HBV := hide hbs
      have HVB := hide hvb
      clear hks hxs hbs hve hvb
      go_upto_region 13 with (fail)
      clear c0 c1 c2 c3 z2 hwv
      generalize W2.setCell ⟨bx, 2, none⟩ (.int .i64 ve) = W3 at HXV HBV ⊢
      have c0 := HBV.out.cell 0 _ rfl
      have c1 := HBV.out.cell 1 _ rfl
      have c2 := HBV.out.cell 2 _ rfl
      have c3 := HBV.out.cell 3 _ rfl
      have hown := owns_ext HOWN.out HXV.out
      rw [HI.out] at hown
      have hwsz : w.heap.size ≤ W3.heap.size := by have := HEX.out.size; have := HXV.out.size; omega
      have hwi := HWI.out
      have hsn : (A ++ [(⟨dx, (p4 : Int), ve, bb⟩ : ActD)]).flatMap encA = A.flatMap encA ++ [.int .i64 dx, .int .i64 (p4 : Int), .int .i64 ve, .bool bb] := by
       rw [List.flatMap_append]
       rfl
      have HSN := hide hsn
      have HOV := hide hown
      clear hsn
      go_wp2_with (at_builtin; refine wpList_append_own _ (by rfl) _ _ 56 (by rfl) w.heap.size 62 i0 _ 4 32 Tryz.underlying56 hi hz0 hz1 hz2 rfl (by decide) _ i _ (by rfl) (hown.alloc _) ⟨W3.heap.size, 0, none⟩ 1 1 [.int .i64 dx, .int .i64 (p4 : Int), .int .i64 ve, .bool bb] (by rfl) (by rfl) (cells_new W3 [.int .i64 dx, .int .i64 (p4 : Int), .int .i64 ve, .bool bb] 62) (by simp [Value.oneCell']) (by unfold maxLen; omega) (by omega) (by simp; omega) ?_; intro v2 w2 hown2 hgrow2 _)
      go_roundw
      case rel =>
       have hl : (A ++ [(⟨dx, (p4 : Int), ve, bb⟩ : ActD)]).length = i + 1 := by rw [List.length_append, HI.out]; rfl
       refine ⟨A ++ [⟨dx, (p4 : Int), ve, bb⟩], md, by rw [hl]; omega, by rw [hl]; omega, by rw [hl] <;> first | rfl | go_num, rfl, by omega, by rw [hl]; omega, ⟨?_, ?_, ?_⟩⟩
       ·rw [hl, HSN.out]
        exact hown2
       ·intro y hy
        rcases List.mem_append.1 hy with hy | hy
        ·exact HFIT.out y hy
        ·rw [List.mem_singleton.1 hy]
         exact ⟨b12.1, b12.2, (by show -1 ≤ (p4 : Int); omega), (by show (p4 : Int) ≤ 9; omega), HVB.out.1, HVB.out.2⟩
       ·exact ext_app (HEX.out.trans HXV.out) ((Below.refl _ _).alloc (Nat.le_refl _) _) hown hgrow2
      case measure => (simp [intOf]) <;> omega
   ·have h40z : ¬ (i : Int) < 40 := by omega
    clear h40
    go_wp2
    go_ret
    first
    | exact ⟨_, A, rfl, HOWN.out, by rw [HI.out]; exact hA40, by rw [HI.out]; exact hAL, HFIT.out, HEX.out⟩
    | (have hown := HOWN.out; rw [HI.out] at hown; exact ⟨_, rfl, A, by rw [HI.out]; exact hown, by rw [HI.out]; exact hA40, by rw [HI.out]; exact hAL, HFIT.out, HEX.out⟩)
  ·have hltz : ¬ (i : Int) < L.length := by omega
   clear hlt
   go_wp2
   go_ret
   first
    | exact ⟨_, A, rfl, HOWN.out, by rw [HI.out]; exact hA40, by rw [HI.out]; exact hAL, HFIT.out, HEX.out⟩
    | (have hown := HOWN.out; rw [HI.out] at hown; exact ⟨_, rfl, A, by rw [HI.out]; exact hown, by rw [HI.out]; exact hA40, by rw [HI.out]; exact hAL, HFIT.out, HEX.out⟩)
end Go.Proofs.YtkhebanpplokdaaGreatDoor
namespace Go.Proofs.YtkhebanpplokdaaGreatDoor
open Go.ChangeShapes Go.WideShapes Go.ChangeAt Go.RowKit Go.Lib Go.Shelf Go.Maps
theorem PlaneIs.setM {B : Nat} {w : World} {p bm : Nat} {N : Nat} {pl : PlD} {g c : Nat} (h : PlaneIs B w p bm (.slice (some ⟨g, 0, none⟩) pl.V.length c) N pl) (i : Nat) (hi : i < pl.V.length) (j : Nat) (hj : j < 3) (u : Value) (m' : MadeD) (he : encM m' = (encM pl.V[i]).set j u) (hb : ∀ b, m'.b = some b → pl.V[i].b = some b) :
  PlaneIs B (w.setCell ⟨g, i * 3 + j, none⟩ u) p bm (.slice (some ⟨g, 0, none⟩) pl.V.length c) N { pl with V := pl.V.set i m' } ∧ Keeps (fun q => (Value.slice (some ⟨g, 0, none⟩) pl.V.length c).ownBlock = some q) w (w.setCell ⟨g, i * 3 + j, none⟩ u) := by
 have hset := owns_set1 encM_len h.row i j hi hj u m' he
 have hks := Keeps.of_set (X := fun q => (Value.slice (some ⟨g, 0, none⟩) pl.V.length c).ownBlock = some q) w g (i * 3 + j) u rfl
 obtain ⟨cs, fz, hgk⟩ := ownsRow_kind h.row g rfl
 have hpg : p ≠ g := fun e => by
  subst e
  rw [h.box] at hgk
  cases hgk
 have hbg : bm ≠ g := fun e => by
  obtain ⟨n, -, hs⟩ := h.sm
  obtain ⟨es, cc, hb⟩ := hs.block
  rw [e, hgk] at hb
  cases hb
 have hng : ∀ {q : Nat}, q ≠ g → ¬ (Value.slice (some ⟨g, 0, none⟩) pl.V.length c).ownBlock = some q := fun hq e => hq (by cases e; rfl)
 refine ⟨⟨h.hp, h.hm, ?_, ?_, ?_, fun k hk b hkb => ?_⟩, hks⟩
 ·exact (hks.block p h.lt (hng hpg)).trans h.box
 ·rw [List.length_set]
  exact hset
 ·obtain ⟨n, hn, hs⟩ := h.sm
  exact ⟨n, hn, (hs.setCell (a := ⟨g, i * 3 + j, none⟩) hbg _)⟩
 ·have hk2 : k < pl.V.length := by simpa using hk
  have hb2 : pl.V[k].b = some b := by
   simp only [List.getElem_set] at hkb
   split at hkb
   ·rename_i e
    subst e
    exact hb b hkb
   ·exact hkb
  obtain ⟨g1, cs2, f2, g2⟩ := h.ver k hk2 b hb2
  have hne : b ≠ g := fun e => by
   rw [e, hgk] at g2
   cases g2
  have g3 := (hks.block b (Array.getElem?_eq_some_iff.1 g2).1 (hng hne)).trans g2
  refine ⟨?_, cs2, f2, g3⟩
  rw [← g1]
  exact World.cell?_of_block (w := w) (a := ⟨b, 0, none⟩) (g3.trans g2.symm)
set_option maxRecDepth 100000 in
set_option maxHeartbeats 4000000 in
theorem pin_any {B : Nat} {w : World} {p bm : Nat} {vv : Value} {N : Nat} {pl : PlD} (h : PlaneIs B w p bm vv N pl) (v : Int) (hI : I64 v) (hpb : ∀ m ∈ pl.V, 0 ≤ m.pins ∧ m.pins ≤ 1000000) :
  Calls Tryz.prog 50 #[.pointer (some ⟨p, 0, none⟩), .int .i64 v] w fun e w' => e = .returned (.int .i64 (pinE pl v)) ∧ ((pinE pl v ≠ 0 ∧ Ext w w') ∨ (pinE pl v = 0 ∧ Keeps (fun q => vv.ownBlock = some q) w w' ∧ PlaneIs B w' p bm vv N (pinP pl v 1))) := by
 have HLV := hide (live_any h)
 have H := hide h
 have HPB := hide hpb
 have hle : liveN pl ≤ pl.V.length := gtN_le _ _
 clear h hpb
 by_cases h0 : v = 0
 ·have he : pinE pl v = 17 := by unfold pinE; rw [if_pos (.inl h0)]
  rw [he]
  subst h0
  clear HLV he hle
  go_enter Tryz.func50, Tryz.ntmps50
  go_wp2
  go_ret
  exact ⟨rfl, .inl ⟨by decide, Below.refl _ _⟩⟩
 have d0 : (v == 0) = false := by simpa using h0
 by_cases hv : v = (liveN pl : Int)
 ·have he : pinE pl v = 0 := by unfold pinE; rw [if_neg (by omega)]
  rw [he]
  have h1 : 1 ≤ v := by omega
  have h2 : v ≤ (pl.V.length : Int) := by omega
  obtain ⟨l, hl⟩ : ∃ l : Int, (liveN pl : Int) = l := ⟨_, rfl⟩
  rw [hl] at HLV hv
  have dq : (v != l) = false := by simpa using hv
  have HV := hide hv
  clear he hl hle hv h0
  go_enter Tryz.func50, Tryz.ntmps50
  go_wp2_with fail
  refine HLV.out.mono ?_
  rintro e w2 ⟨rfl, hE⟩
  have hlen1 := h1
  have hlen2 := h2
  have h2P := H.out.ext hE
  clear HLV
  obtain ⟨m, hm⟩ : ∃ m : Nat, v = (m : Int) + 1 := ⟨v.toNat - 1, by omega⟩
  subst hm
  have hml : m < pl.V.length := by omega
  have hr := h2P.row
  have h63 := owns_len hr
  obtain ⟨g, c, hvv, -⟩ := owns_form hr (by omega)
  rw [hvv] at h2P hr
  have c1 := h2P.c1
  obtain ⟨d1, z1⟩ := cell_row encM_len hr m hml 2 _ rfl
  have hav := HPB.out _ (List.getElem_mem hml)
  obtain ⟨hnew, hkk⟩ := h2P.setM m hml 2 (by decide) (.int .i64 (pl.V[m].pins + 1)) (pinM pl.V[m] (1)) rfl (fun b hb => hb)
  have hpe : pinP pl ((m : Int) + 1) (1) = { pl with V := pl.V.set m (pinM pl.V[m] (1)) } := by
   have e1 : ((m : Int) + 1).toNat - 1 = m := by omega
   unfold pinP
   rw [e1, madeAt_eq pl hml]
  rw [← hpe, ← hvv] at hnew
  rw [← hvv] at hkk
  have HNW := hide hnew
  have HKK := hide hkk
  have HHE := hide hE
  have hw1 : IntKind.i64.wrap (((m : Int) + 1) - 1) = (m : Int) := by rw [IntKind.wrap_i64]; omega
  have hw2 : IntKind.i64.wrap (pl.V[m].pins + 1) = pl.V[m].pins + 1 := by rw [IntKind.wrap_i64]; omega
  have hmz : (m : Int) < pl.V.length := by omega
  have hm0 : (0 : Int) ≤ m := by omega
  obtain ⟨vz, hvz⟩ : ∃ vz : Int, (m : Int) + 1 = vz := ⟨_, rfl⟩
  rw [hvz] at hw1 d0 dq ⊢
  have HVZ := hide hvz
  generalize pl.V[m].pins = x at *
  clear hnew hkk hlen1 hlen2 hr h63 hvv hav h2P hvz hpe hE HV h1 h2
  go_wp2
  go_ret
  have e := HVZ.out
  subst e
  first
  | exact ⟨rfl, .inr ⟨rfl, (Keeps.of_ext HHE.out).trans HKK.out, HNW.out⟩⟩
  | exact ⟨rfl, .inr ⟨trivial, (Keeps.of_ext HHE.out).trans HKK.out, HNW.out⟩⟩
 ·have he : pinE pl v = 17 := by unfold pinE; rw [if_pos (.inr hv)]
  rw [he]
  obtain ⟨l, hl⟩ : ∃ l : Int, (liveN pl : Int) = l := ⟨_, rfl⟩
  rw [hl] at HLV hv
  have d1 : (v != l) = true := by simpa using hv
  clear he hl hle hv h0
  go_enter Tryz.func50, Tryz.ntmps50
  go_wp2_with fail
  refine HLV.out.mono ?_
  rintro e w2 ⟨rfl, hE⟩
  have HE := hide hE
  clear HLV hE
  go_wp2
  go_ret
  exact ⟨rfl, .inl ⟨by decide, HE.out⟩⟩
set_option maxRecDepth 100000 in
set_option maxHeartbeats 4000000 in
theorem unpin_any {B : Nat} {w : World} {p bm : Nat} {vv : Value} {N : Nat} {pl : PlD} (h : PlaneIs B w p bm vv N pl) (v : Int) (hI : I64 v) (hpb : ∀ m ∈ pl.V, 0 ≤ m.pins ∧ m.pins ≤ 1000000) :
  Calls Tryz.prog 52 #[.pointer (some ⟨p, 0, none⟩), .int .i64 v] w fun e w' => e = .returned (.int .i64 (unpE pl v)) ∧ ((unpE pl v ≠ 0 ∧ Ext w w') ∨ (unpE pl v = 0 ∧ Keeps (fun q => vv.ownBlock = some q) w w' ∧ PlaneIs B w' p bm vv N (pinP pl v (-1)))) := by
 have HW := hide (wasMade_any h v)
 have H := hide h
 have HPB := hide hpb
 clear h hpb
 obtain ⟨wm, hwm⟩ : ∃ b, wasM pl v = b := ⟨_, rfl⟩
 rw [hwm] at HW
 cases wm with
 | false =>
  have he : unpE pl v = 17 := by unfold unpE; rw [if_pos hwm]
  rw [he]
  clear he hwm
  go_enter Tryz.func52, Tryz.ntmps52
  go_wp2_with fail
  refine HW.out.mono ?_
  rintro e w2 ⟨rfl, rfl⟩
  go_wp2
  go_ret
  exact ⟨rfl, .inl ⟨by decide, Below.refl _ _⟩⟩
 | true =>
  have h12 : 1 ≤ v ∧ v ≤ (pl.V.length : Int) := by
   unfold wasM at hwm
   simpa using hwm
  obtain ⟨h1, h2l⟩ := h12
  have hue : unpE pl v = if (madeAt pl (v.toNat - 1)).pins = 0 then 17 else 0 := by unfold unpE; rw [if_neg (by rw [hwm]; decide)]
  clear hwm
  have h2P := H.out
  have hE : Ext w w := Below.refl _ _
  obtain ⟨m, hm⟩ : ∃ m : Nat, v = (m : Int) + 1 := ⟨v.toNat - 1, by omega⟩
  subst hm
  have hml : m < pl.V.length := by omega
  have hr := h2P.row
  have h63 := owns_len hr
  obtain ⟨g, c, hvv, -⟩ := owns_form hr (by omega)
  rw [hvv] at h2P hr
  have c1 := h2P.c1
  obtain ⟨d1, z1⟩ := cell_row encM_len hr m hml 2 _ rfl
  have hav := HPB.out _ (List.getElem_mem hml)
  obtain ⟨hnew, hkk⟩ := h2P.setM m hml 2 (by decide) (.int .i64 (pl.V[m].pins - 1)) (pinM pl.V[m] (-1)) rfl (fun b hb => hb)
  have hpe : pinP pl ((m : Int) + 1) (-1) = { pl with V := pl.V.set m (pinM pl.V[m] (-1)) } := by
   have e1 : ((m : Int) + 1).toNat - 1 = m := by omega
   unfold pinP
   rw [e1, madeAt_eq pl hml]
  rw [← hpe, ← hvv] at hnew
  rw [← hvv] at hkk
  have HNW := hide hnew
  have HKK := hide hkk
  have HHE := hide hE
  have hw1 : IntKind.i64.wrap (((m : Int) + 1) - 1) = (m : Int) := by rw [IntKind.wrap_i64]; omega
  have hw2 : IntKind.i64.wrap (pl.V[m].pins - 1) = pl.V[m].pins - 1 := by rw [IntKind.wrap_i64]; omega
  have hmz : (m : Int) < pl.V.length := by omega
  have hm0 : (0 : Int) ≤ m := by omega
  have hme : (madeAt pl (((m : Int) + 1).toNat - 1)).pins = pl.V[m].pins := by
   rw [show ((m : Int) + 1).toNat - 1 = m by omega, madeAt_eq pl hml]
  rw [hme] at hue
  obtain ⟨vz, hvz⟩ : ∃ vz : Int, (m : Int) + 1 = vz := ⟨_, rfl⟩
  rw [hvz] at hw1 HW hue ⊢
  have HVZ := hide hvz
  rw [hue]
  have HUE := hide hue
  generalize pl.V[m].pins = x at *
  clear hnew hkk h1 h2l hr h63 hvv hav h2P hvz hpe hE hue hme
  by_cases e0 : x = 0
  ·have d0 : (x == 0) = true := by simpa using e0
   rw [if_pos e0]
   clear e0 HUE
   go_enter Tryz.func52, Tryz.ntmps52
   go_wp2_with fail
   refine HW.out.mono ?_
   rintro e w2 ⟨rfl, rfl⟩
   go_wp2
   go_ret
   exact ⟨rfl, .inl ⟨by decide, Below.refl _ _⟩⟩
  ·have d0 : (x == 0) = false := by simpa using e0
   rw [if_neg e0]
   clear e0 HUE
   go_enter Tryz.func52, Tryz.ntmps52
   go_wp2_with fail
   refine HW.out.mono ?_
   rintro e w2 ⟨rfl, rfl⟩
   go_wp2
   go_ret
   have e := HVZ.out
   subst e
   first
   | exact ⟨rfl, .inr ⟨rfl, HKK.out, HNW.out⟩⟩
   | exact ⟨rfl, .inr ⟨trivial, HKK.out, HNW.out⟩⟩
theorem PlaneIs.keepT {B : Nat} {w w' : World} {p bm : Nat} {vv : Value} {N : Nat} {pl : PlD} {X : Nat → Prop} {T : TypeId} (h : PlaneIs B w p bm vv N pl) (k : Keeps X w w') (hX : OfT w X T) (h1 : T ≠ 115) (h2 : T ≠ 117) (h3 : T ≠ 45) : PlaneIs B w' p bm vv N pl :=
 h.keeps k (fun hx => by
  obtain ⟨cs, f, hc⟩ := hX _ hx
  rw [h.box] at hc
  cases hc
  exact h1 rfl) (fun hx => by
  obtain ⟨cs, f, hc⟩ := hX _ hx
  obtain ⟨n, -, hs⟩ := h.sm
  obtain ⟨es, cc, hb⟩ := hs.block
  rw [hb] at hc
  cases hc) (fun g hg hx => by
  obtain ⟨cs, f, hc⟩ := hX _ hx
  exact h2 (owns_type h.row hg hc)) (fun q hx cs f e => by
  obtain ⟨cs', f', hc⟩ := hX _ hx
  rw [hc] at e
  cases e
  exact h3 rfl)
theorem Keeps.app {X : Nat → Prop} {w wr w2 : World} {e : TypeId} {size n : Nat} {v : Value} {xs : List Value} (h : Keeps X w wr) (ho : wr.ownsRow w.heap.size e size v n xs) (hg : wr.grownBy w2 v.ownBlock) : Keeps X w w2 :=
 ⟨hg.os.trans h.os, hg.tape.trans h.tape, hg.output.trans h.output, Nat.le_trans h.size hg.size, fun k hk hx => (hg.block k (Nat.lt_of_lt_of_le hk h.size) (fun e => by have := (ho.lt k e.symm).1; omega)).trans (h.block k hk hx)⟩
set_option maxRecDepth 100000 in
set_option maxHeartbeats 8000000 in
theorem drop_any {B : Nat} {w : World} {p bm : Nat} {vv : Value} {N : Nat} {pl : PlD} (h : PlaneIs B w p bm vv N pl) (h50 : pl.V.length ≤ 1000) :
  Calls Tryz.prog 54 #[.pointer (some ⟨p, 0, none⟩)] w fun e w' => ∃ v', e = .returned v' ∧ w'.ownsRow w.heap.size 3 1 v' (goneN pl (liveN pl - 1)).length ((goneN pl (liveN pl - 1)).flatMap encI) ∧ PlaneIs B w' p bm vv N (dropN pl (liveN pl - 1)) ∧ Keeps (fun q => vv.ownBlock = some q) w w' := by
 obtain ⟨i0, hi, hz0, hz1, hz2⟩ := info_z' infoI'
 have hle : liveN pl ≤ pl.V.length := gtN_le _ _
 have hlv := live_drop pl
 obtain ⟨lv, hl⟩ : ∃ l, liveN pl = l := ⟨_, rfl⟩
 rw [hl] at hle ⊢
 simp only [hl] at hlv
 have HLV := hide hlv
 have H := hide h
 clear h hlv hl
 go_enter Tryz.func54, Tryz.ntmps54
 go_wp2_with fail
 go_loopw [3, 4] (fun v3 v4 wr => ∃ t : Nat, (t + 1 ≤ lv ∨ t = 0) ∧ v4 = .int .i64 ((t : Int) + 1) ∧ Hid (wr.ownsRow w.heap.size 3 1 v3 (goneN pl t).length ((goneN pl t).flatMap encI) ∧ PlaneIs B wr p bm vv N (dropN pl t) ∧ Keeps (fun q => vv.ownBlock = some q) w wr)) (fun _ i _ => lv + 1 - (intOf i).toNat)
 case atStart => exact ⟨0, .inr rfl, rfl, ⟨⟨by simp [goneN], .inl ⟨rfl, rfl⟩⟩, by rw [dropN_zero]; exact H.out, Keeps.refl _ _⟩⟩
 case round =>
  obtain ⟨t, ht, rfl, hx⟩ := hrel
  have HX := hide hx.out
  clear hx
  generalize wr = wo at *
  go_wp2_with fail
  refine (live_any HX.out.2.1).mono ?_
  rintro e w3 ⟨rfl, E3⟩
  rw [HLV.out]
  obtain ⟨hown, hpl, hkp⟩ := HX.out
  have hown := owns_ext hown E3
  have hpl := hpl.ext E3
  have hkp := hkp.trans (Keeps.of_ext E3)
  clear HX E3
  by_cases hlt : t + 1 < lv
  ·have hltz : (t : Int) + 1 < (lv : Int) := by omega
   have hml : t < (dropN pl t).V.length := by rw [dropN_len]; omega
   have hmlp : t < pl.V.length := by omega
   have hr := hpl.row
   have h63 := owns_len hr
   obtain ⟨g, c, hvv, -⟩ := owns_form hr (by omega)
   subst hvv
   have c0 := hpl.c0
   have c1 := hpl.c1
   obtain ⟨d0, z0⟩ := cell_row encM_len hr t hml 0 _ rfl
   obtain ⟨d2, z2⟩ := cell_row encM_len hr t hml 2 _ rfl
   have hget : (dropN pl t).V[t] = madeAt pl t := by rw [dropN_get pl t t hmlp, if_neg (by omega), madeAt_eq pl hmlp]
   have hsetM := hpl.setM t hml 0 (by decide) (.pointer none) ⟨none, (madeAt pl t).acks, (madeAt pl t).pins⟩ (by rw [hget]; rfl) (fun b hb => by cases hb)
   rw [hget] at d0 d2
   have hw1 : IntKind.i64.wrap ((t : Int) + 1 - 1) = (t : Int) := by rw [IntKind.wrap_i64]; omega
   have hw2 : IntKind.i64.wrap ((t : Int) + 1 + 1) = ((t + 1 : Nat) : Int) + 1 := by rw [IntKind.wrap_i64]; omega
   have hmz : (t : Int) < (dropN pl t).V.length := by omega
   have hgs := goneN_succ pl t
   have hds := dropN_succ pl t hmlp
   have hsame := dropN_same pl t hmlp
   have hgl := goneN_len pl t
   obtain ⟨an, cn, rfl⟩ := owns_shape hown
   have hksz := hkp.size
   have HOWN := hide hown
   have HPL := hide hpl
   have HKP := hide hkp
   obtain ⟨M, hM⟩ : ∃ M, madeAt pl t = M := ⟨_, rfl⟩
   rw [hM] at d0 d2 hsetM hds hgs hsame
   have HSM := hide hsetM
   have HDS := hide hds
   have HGS := hide hgs
   have HSAME := hide hsame
   clear hown hpl hkp hr h63 hget hsetM hgs hds hsame c0 hM
   obtain ⟨mb, ma, mp⟩ := M
   have d2' : w3.cell? ⟨g, t * 3 + 2, none⟩ = some (.int .i64 mp) := d2
   clear d2
   cases mb with
   | none =>
    have d0' : w3.cell? ⟨g, t * 3, none⟩ = some (.pointer none) := d0
    clear d0
    have hno : mayDrop ⟨none, ma, mp⟩ = false := rfl
    have HNO := hide hno
    clear hno HSM HDS z0 z2 hgl
    obtain ⟨z, hz⟩ : ∃ z : Int, (t : Int) + 1 = z := ⟨_, rfl⟩
    have HZZ := hide hz
    rw [hz] at hw1 hw2 hltz ⊢
    clear hz
    go_wp2
    go_roundw
    case rel => exact ⟨t + 1, .inl (by omega), rfl, ⟨by rw [HGS.out, if_neg (by rw [HNO.out]; decide)]; exact HOWN.out, by rw [HSAME.out HNO.out]; exact HPL.out, HKP.out⟩⟩
    case measure => have := HZZ.out; (simp [intOf]) <;> omega
   | some mb =>
    have d0' : w3.cell? ⟨g, t * 3, none⟩ = some (.pointer (some ⟨mb, 0, none⟩)) := d0
    have z0' : w3.frozen? ⟨g, t * 3, none⟩ = false := z0
    clear d0 z0
    by_cases hp0 : mp = 0
    ·have e0 : (mp == 0) = true := by simpa using hp0
     have hyes : mayDrop ⟨some mb, ma, mp⟩ = true := by subst hp0; rfl
     have HYES := hide hyes
     obtain ⟨hnew, hkk⟩ := HSM.out
     have hdm : dropM ⟨some mb, ma, mp⟩ = ⟨none, ma, mp⟩ := by unfold dropM; rw [if_pos hp0]
     have hds := HDS.out
     rw [hdm] at hds
     rw [← hds] at hnew
     have hown := owns_keepT HOWN.out hkk (OfT.own HPL.out.row) (by decide)
     have HNW := hide hnew
     have HKK := hide (HKP.out.trans hkk)
     have hgl2 := hgl
     clear hyes hnew hkk hdm hds HSM HDS HSAME hp0 z2
     obtain ⟨z, hz⟩ : ∃ z : Int, (t : Int) + 1 = z := ⟨_, rfl⟩
     have HZZ := hide hz
     rw [hz] at hw1 hw2 hltz ⊢
     clear hz
     obtain ⟨n, hn⟩ : ∃ n, (goneN pl t).length = n := ⟨_, rfl⟩
     rw [hn] at hown hgl hgl2 ⊢
     have HN := hide hn
     clear hn HOWN
     go_wp2_with (at_builtin; refine wpList_append_own _ (by rfl) _ _ 22 (by rfl) w.heap.size 3 i0 (.int .i64 0) 1 8 Tryz.underlying22 hi hz0 hz1 hz2 rfl (by decide) _ n _ (by rfl) (hown.alloc _) ⟨w3.heap.size, 0, none⟩ 1 1 [.int .i64 z] (by rfl) (by rfl) (by first | exact cells_new w3 [.int .i64 z] 3 | (have := cells_new (w3.setCell ⟨g, t * 3, none⟩ (.pointer none)) [.int .i64 z] 3; simpa [World.setCell] using this)) (by simp [Value.oneCell']) (by unfold maxLen; omega) (by omega) (by simp; omega) ?_; intro v2 w2 hown2 hgrow2 _)
     go_roundw
     case rel =>
      have hz := HZZ.out
      have hal : Ext (w3.setCell ⟨g, t * 3, none⟩ (.pointer none)) ((w3.setCell ⟨g, t * 3, none⟩ (.pointer none)).alloc (.cells #[.int .i64 z] 3)) := (Below.refl _ _).alloc (Nat.le_refl _) _
      refine ⟨t + 1, .inl (by omega), rfl, ⟨?_, ?_, ?_⟩⟩
      ·rw [HGS.out, if_pos HYES.out, List.length_append, HN.out, List.flatMap_append, hz]
       exact hown2
      ·exact (HNW.out.ext hal).keepT (Keeps.of_grown hgrow2 (X := fun q => (Value.slice an n cn).ownBlock = some q) (fun k hk => hk)) (OfT.own (hown.alloc _)) (by decide) (by decide) (by decide)
      ·exact (HKK.out.trans (Keeps.of_ext hal)).app (hown.alloc _) hgrow2
     case measure => have := HZZ.out; (simp [intOf]) <;> omega
    ·have e0 : (mp == 0) = false := by simpa using hp0
     have hno : mayDrop ⟨some mb, ma, mp⟩ = false := by unfold mayDrop; simpa using hp0
     have HNO := hide hno
     clear hno HSM HDS z0' z2 hgl hp0
     obtain ⟨z, hz⟩ : ∃ z : Int, (t : Int) + 1 = z := ⟨_, rfl⟩
     have HZZ := hide hz
     rw [hz] at hw1 hw2 hltz ⊢
     clear hz
     go_wp2
     go_roundw
     case rel => exact ⟨t + 1, .inl (by omega), rfl, ⟨by rw [HGS.out, if_neg (by rw [HNO.out]; decide)]; exact HOWN.out, by rw [HSAME.out HNO.out]; exact HPL.out, HKP.out⟩⟩
     case measure => have := HZZ.out; (simp [intOf]) <;> omega
  ·have hnz : ¬ (t : Int) + 1 < (lv : Int) := by omega
   have hte : t = lv - 1 := by omega
   have hown2 := hown
   have hpl2 := hpl
   rw [hte] at hown2 hpl2
   have HOWN := hide hown2
   have HPL := hide hpl2
   have HKP := hide hkp
   clear hown2 hpl2
   clear hown hpl hkp hlt hle ht hte
   obtain ⟨z, hz⟩ : ∃ z : Int, (t : Int) + 1 = z := ⟨_, rfl⟩
   rw [hz] at hnz ⊢
   clear hz
   go_wp2
   go_ret
   exact ⟨_, rfl, HOWN.out, HPL.out, HKP.out⟩
end Go.Proofs.YtkhebanpplokdaaGreatDoor
namespace Go.Proofs.YtkhebanpplokdaaGreatDoor
open Go.ChangeShapes Go.WideShapes Go.ChangeAt Go.RowKit Go.Lib Go.Shelf Go.Maps
section
variable {B N p bm : Nat} {w w' : World} {pl : PlD}
theorem pl_pin (h : Pl B N w p bm pl) (v : Int) (hI : I64 v) (hpb : ∀ m ∈ pl.V, 0 ≤ m.pins ∧ m.pins ≤ 1000000) :
  Calls Tryz.prog 50 #[.pointer (some ⟨p, 0, none⟩), .int .i64 v] w fun e w' => e = .returned (.int .i64 (pinE pl v)) ∧ Pl B N w' p bm (if pinE pl v = 0 then pinP pl v 1 else pl) ∧ KP B w w' := by
 obtain ⟨vv, h⟩ := h
 refine (pin_any h v hI hpb).mono ?_
 rintro e w' ⟨rfl, ⟨hne, E⟩ | ⟨he, hk, hp⟩⟩
 ·rw [if_neg hne]
  exact ⟨rfl, ⟨vv, h.ext E⟩, KP.of_ext E⟩
 ·rw [if_pos he]
  exact ⟨rfl, ⟨vv, hp⟩, h.kp (hk.mono fun _ hq => .inr (.inr hq))⟩
theorem pl_unpin (h : Pl B N w p bm pl) (v : Int) (hI : I64 v) (hpb : ∀ m ∈ pl.V, 0 ≤ m.pins ∧ m.pins ≤ 1000000) :
  Calls Tryz.prog 52 #[.pointer (some ⟨p, 0, none⟩), .int .i64 v] w fun e w' => e = .returned (.int .i64 (unpE pl v)) ∧ Pl B N w' p bm (if unpE pl v = 0 then pinP pl v (-1) else pl) ∧ KP B w w' := by
 obtain ⟨vv, h⟩ := h
 refine (unpin_any h v hI hpb).mono ?_
 rintro e w' ⟨rfl, ⟨hne, E⟩ | ⟨he, hk, hp⟩⟩
 ·rw [if_neg hne]
  exact ⟨rfl, ⟨vv, h.ext E⟩, KP.of_ext E⟩
 ·rw [if_pos he]
  exact ⟨rfl, ⟨vv, hp⟩, h.kp (hk.mono fun _ hq => .inr (.inr hq))⟩
theorem pl_drop (h : Pl B N w p bm pl) (h50 : pl.V.length ≤ 1000) :
  Calls Tryz.prog 54 #[.pointer (some ⟨p, 0, none⟩)] w fun e w' => ∃ v', e = .returned v' ∧ w'.ownsRow w.heap.size 3 1 v' (goneN pl (liveN pl - 1)).length ((goneN pl (liveN pl - 1)).flatMap encI) ∧ Pl B N w' p bm (dropN pl (liveN pl - 1)) ∧ KP B w w' := by
 obtain ⟨vv, h⟩ := h
 refine (drop_any h h50).mono ?_
 rintro e w' ⟨v', rfl, h1, h2, h3⟩
 exact ⟨v', rfl, h1, ⟨vv, h2⟩, h.kp (h3.mono fun _ hq => .inr (.inr hq))⟩
theorem Pl.keepT {X : Nat → Prop} {T : TypeId} (h : Pl B N w p bm pl) (k : Keeps X w w') (hX : OfT w X T) (h1 : T ≠ 115) (h2 : T ≠ 117) (h3 : T ≠ 45) : Pl B N w' p bm pl := by
 obtain ⟨vv, h⟩ := h
 exact ⟨vv, h.keepT k hX h1 h2 h3⟩
end
theorem acts_at {w : World} {a : Option Addr} {n cap : Nat} {xs : List ActD} (h : Sl encA 4 w (.slice a n cap) xs) (i : Nat) (hi : i < xs.length) :
  ∃ b off, a = some ⟨b, off, none⟩ ∧ b < w.heap.size ∧ w.cell? ⟨b, off + i * 4, none⟩ = some (.int .i64 xs[i].act) ∧ w.cell? ⟨b, off + i * 4 + 1, none⟩ = some (.int .i64 xs[i].pr) ∧ w.cell? ⟨b, off + i * 4 + 2, none⟩ = some (.int .i64 xs[i].ver) ∧ w.cell? ⟨b, off + i * 4 + 3, none⟩ = some (.bool xs[i].bent) := by
 obtain ⟨_, a', cap', hv, _, hc⟩ := h
 cases hv
 obtain ⟨b, off, ha, hb, hc⟩ := hc i xs[i] (List.getElem?_eq_getElem hi)
 exact ⟨b, off, ha, hb, by simpa using hc 0 _ rfl, by simpa using hc 1 _ rfl, by simpa using hc 2 _ rfl, by simpa using hc 3 _ rfl⟩
end Go.Proofs.YtkhebanpplokdaaGreatDoor
