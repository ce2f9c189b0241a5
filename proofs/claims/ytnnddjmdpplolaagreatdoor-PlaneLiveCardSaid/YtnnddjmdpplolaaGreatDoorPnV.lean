/- ref17.Acts (printed by wip/gen_pnv.py). -/
import Derived.Test.YtnnddjmdpplolaaGreatDoorZpa
import Derived.Test.YtnnddjmdpplolaaGreatDoorZy
namespace Go.Proofs.YtnnddjmdpplolaaGreatDoor
open Go.ChangeShapes Go.WideShapes Go.ChangeAt Go.RowKit Go.Lib Go.Shelf Go.Maps
structure ActD where
 act : Int
 pr : Int
 ver : Int
 bent : Bool
def encA (a : ActD) : List Value := [.int .i64 a.act, .int .i64 a.pr, .int .i64 a.ver, .bool a.bent]
theorem encA_len (a : ActD) : (encA a).length = 4 := rfl
theorem infoA' : (Tryz.prog.info? 66).map (fun i => (i.zero, i.size, i.bytes)) = some (some (.agg #[.int .i64 0, .int .i64 0, .int .i64 0, .bool false]), 4, 32) := by kernel_rfl
def ActFit (a : ActD) : Prop := 0 ≤ a.act ∧ a.act ≤ 6 ∧ -1 ≤ a.pr ∧ a.pr ≤ 9 ∧ -2 ≤ a.ver ∧ a.ver ≤ 50
def d12 (d : Nat) : Int := [0, 1, 2, 1, 2, 1, 3, 4, 5, 6, 1, 4].getD d 0
def d3 (d : Nat) : Int := [-1, 4, 9].getD d 0
theorem d12_bd (d : Nat) (hd : d < 12) : 0 ≤ d12 d ∧ d12 d ≤ 6 := by
 have h : d = 0 ∨ d = 1 ∨ d = 2 ∨ d = 3 ∨ d = 4 ∨ d = 5 ∨ d = 6 ∨ d = 7 ∨ d = 8 ∨ d = 9 ∨ d = 10 ∨ d = 11 := by omega
 rcases h with rfl | rfl | rfl | rfl | rfl | rfl | rfl | rfl | rfl | rfl | rfl | rfl <;> decide
theorem d3_bd (d : Nat) (hd : d < 3) : -1 ≤ d3 d ∧ d3 d ≤ 9 := by
 have h : d = 0 ∨ d = 1 ∨ d = 2 := by omega
 rcases h with rfl | rfl | rfl <;> decide
theorem cell12 (w : World) (d : Nat) (hd : d < 12) : (w.alloc (.cells #[.int .i64 0, .int .i64 1, .int .i64 2, .int .i64 1, .int .i64 2, .int .i64 1, .int .i64 3, .int .i64 4, .int .i64 5, .int .i64 6, .int .i64 1, .int .i64 4] 3)).cell? ⟨w.heap.size, d, none⟩ = some (.int .i64 (d12 d)) := by
 have h : d = 0 ∨ d = 1 ∨ d = 2 ∨ d = 3 ∨ d = 4 ∨ d = 5 ∨ d = 6 ∨ d = 7 ∨ d = 8 ∨ d = 9 ∨ d = 10 ∨ d = 11 := by omega
 have hb := heap_alloc_new w (.cells #[.int .i64 0, .int .i64 1, .int .i64 2, .int .i64 1, .int .i64 2, .int .i64 1, .int .i64 3, .int .i64 4, .int .i64 5, .int .i64 6, .int .i64 1, .int .i64 4] 3)
 simp only [World.cell?, hb]
 rcases h with rfl | rfl | rfl | rfl | rfl | rfl | rfl | rfl | rfl | rfl | rfl | rfl <;> rfl
theorem cell3 (w : World) (d : Nat) (hd : d < 3) : (w.alloc (.cells #[.int .i64 (-1), .int .i64 4, .int .i64 9] 3)).cell? ⟨w.heap.size, d, none⟩ = some (.int .i64 (d3 d)) := by
 have h : d = 0 ∨ d = 1 ∨ d = 2 := by omega
 have hb := heap_alloc_new w (.cells #[.int .i64 (-1), .int .i64 4, .int .i64 9] 3)
 simp only [World.cell?, hb]
 rcases h with rfl | rfl | rfl <;> rfl
def BoxA (w : World) (b : Nat) (a : ActD) : Prop := w.heap[b]? = some (.cells (encA a).toArray 66 (0, 0))
theorem BoxA.lt {w : World} {b : Nat} {a : ActD} (h : BoxA w b a) : b < w.heap.size := (Array.getElem?_eq_some_iff.1 h).1
theorem BoxA.ext {w w' : World} {b : Nat} {a : ActD} (h : BoxA w b a) (e : Ext w w') : BoxA w' b a := (e.block b h.lt).trans h
theorem BoxA.cell {w : World} {b : Nat} {a : ActD} (h : BoxA w b a) (j : Nat) (u : Value) (hu : (encA a)[j]? = some u) : w.cell? ⟨b, j, none⟩ = some u := ArrB.cell h j u (by simpa using hu)
theorem BoxA.frozen {w : World} {b : Nat} {a : ActD} (h : BoxA w b a) (j : Nat) : w.frozen? ⟨b, j, none⟩ = false := ArrB.frozen h j
theorem BoxA.set {w : World} {b : Nat} {a a' : ActD} (h : BoxA w b a) (j : Nat) (v : Value) (he : encA a' = (encA a).set j v) : BoxA (w.setCell ⟨b, j, none⟩ v) b a' := by
 have := ArrB.set h j v
 unfold BoxA
 rw [he]
 simpa using this
set_option maxRecDepth 100000 in
set_option maxHeartbeats 8000000 in
theorem acts_any (L : List Int) (v : Value) (w : World) (hs : Ints w v L) (hL : ∀ x ∈ L, I64 x) :
  Calls Tryz.prog 21 #[v] w fun e w' => ∃ (v' : Value) (A : List ActD), e = .returned v' ∧ w'.ownsRow w.heap.size 66 4 v' A.length (A.flatMap encA) ∧ A.length ≤ 40 ∧ A.length ≤ L.length ∧ (∀ a ∈ A, ActFit a) ∧ Ext w w' := by
 obtain ⟨i0, hi, hz0, hz1, hz2⟩ := info_z' infoA'
 obtain ⟨hl63, a, cap, rfl⟩ := hs.shape
 have HS := hide hs
 have HL := hide hL
 clear hs hL
 go_enter Tryz.func21, Tryz.ntmps21
 go_wp2_with fail
 go_loopw [3, 4, 5] (fun v3 v4 v5 wr => ∃ (A : List ActD) (md : Int), A.length ≤ L.length ∧ A.length ≤ 40 ∧ v5 = .int .i64 A.length ∧ v4 = .int .i64 md ∧ 0 ≤ md ∧ md ≤ A.length ∧ Hid (wr.ownsRow w.heap.size 66 4 v3 A.length (A.flatMap encA) ∧ (∀ a ∈ A, ActFit a) ∧ Ext w wr)) (fun _ _ i _ => L.length - (intOf i).toNat)
 case atStart => exact ⟨[], 0, Nat.zero_le _, Nat.zero_le _, rfl, rfl, Int.le_refl _, by simp, ⟨⟨by simp, .inl ⟨rfl, rfl⟩⟩, fun a ha => (by cases ha), Below.refl _ _⟩⟩
 case round =>
  obtain ⟨A, md, hAL, hA40, rfl, rfl, hm0, hm1, hx⟩ := hrel
  obtain ⟨hown, hfit, hext⟩ := hx.out
  clear hx
  generalize wr = wo at *
  have HOWN := hide hown
  have HFIT := hide hfit
  have HEX := hide hext
  obtain ⟨an, cn, rfl⟩ := owns_shape hown
  clear hown hfit hext
  obtain ⟨i, hi_⟩ : ∃ i, A.length = i := ⟨_, rfl⟩
  rw [hi_] at hAL hA40 hm1 ⊢
  have HI := hide hi_
  clear hi_
  by_cases hlt : i < L.length
  ·have hltz : (i : Int) < L.length := by omega
   by_cases h40 : i < 40
   ·have h40z : (i : Int) < 40 := by omega
    obtain ⟨b, off, rfl, hbb, c1⟩ := ints_at (HS.out.ext HEX.out) i hlt
    have hli := HL.out _ (List.getElem_mem hlt)
    generalize L[i] = x at c1 hli
    have hab := around_bd x 1000000 (by decide)
    have har := around_any x 1000000 wo hli (by omega)
    obtain ⟨K, hK⟩ : ∃ K : Nat, around x 1000000 = (K : Int) := ⟨(around x 1000000).toNat, by omega⟩
    rw [hK] at hab har
    have HAR := hide har
    clear har hK hli
    have hwi : IntKind.i64.wrap ((i : Int) + 1) = ((i + 1 : Nat) : Int) := by rw [IntKind.wrap_i64]; omega
    have HWI := hide hwi
    clear hwi
    go_wp2_with fail
    refine HAR.out.mono ?_
    rintro e w' ⟨rfl, rfl⟩
    clear HAR c1
    have m12 : (K : Int).tmod 12 = ((K % 12 : Nat) : Int) := by rw [Int.tmod_eq_emod_of_nonneg (by omega)]; omega
    have q12 : (K : Int).tdiv 12 = ((K / 12 : Nat) : Int) := by rw [Int.tdiv_eq_ediv_of_nonneg (by omega)]; omega
    have w12 : IntKind.i64.wrap ((K / 12 : Nat) : Int) = ((K / 12 : Nat) : Int) := by rw [IntKind.wrap_i64]; omega
    have m4 : ((K / 12 : Nat) : Int).tmod 4 = ((K / 12 % 4 : Nat) : Int) := by rw [Int.tmod_eq_emod_of_nonneg (by omega)]; omega
    have q48 : (K : Int).tdiv 48 = ((K / 48 : Nat) : Int) := by rw [Int.tdiv_eq_ediv_of_nonneg (by omega)]; omega
    have w48 : IntKind.i64.wrap ((K / 48 : Nat) : Int) = ((K / 48 : Nat) : Int) := by rw [IntKind.wrap_i64]; omega
    have m7 : ((K / 48 : Nat) : Int).tmod 7 = ((K / 48 % 7 : Nat) : Int) := by rw [Int.tmod_eq_emod_of_nonneg (by omega)]; omega
    have m23 : ((K / 48 : Nat) : Int).tmod 23 = ((K / 48 % 23 : Nat) : Int) := by rw [Int.tmod_eq_emod_of_nonneg (by omega)]; omega
    have q11 : (K : Int).tdiv 1104 = ((K / 1104 : Nat) : Int) := by rw [Int.tdiv_eq_ediv_of_nonneg (by omega)]; omega
    have w11 : IntKind.i64.wrap ((K / 1104 : Nat) : Int) = ((K / 1104 : Nat) : Int) := by rw [IntKind.wrap_i64]; omega
    have m31 : ((K / 1104 : Nat) : Int).tmod 3 = ((K / 1104 % 3 : Nat) : Int) := by rw [Int.tmod_eq_emod_of_nonneg (by omega)]; omega
    have q33 : (K : Int).tdiv 336 = ((K / 336 : Nat) : Int) := by rw [Int.tdiv_eq_ediv_of_nonneg (by omega)]; omega
    have w33 : IntKind.i64.wrap ((K / 336 : Nat) : Int) = ((K / 336 : Nat) : Int) := by rw [IntKind.wrap_i64]; omega
    have m33 : ((K / 336 : Nat) : Int).tmod 3 = ((K / 336 % 3 : Nat) : Int) := by rw [Int.tmod_eq_emod_of_nonneg (by omega)]; omega
    have l12 : K % 12 < 12 := by omega
    have l3 : K / 1104 % 3 < 3 := by omega
    have l4 : K / 12 % 4 < 4 := by omega
    have l33 : K / 336 % 3 < 3 := by omega
    have b12 := d12_bd _ l12
    have b3 := d3_bd _ l3
    have hc12 := cell12 wo (K % 12) l12
    have hc3 := fun W : World => cell3 W (K / 1104 % 3) l3
    generalize K / 12 = k12 at *
    generalize K / 48 = k48 at *
    generalize K / 1104 = k11 at *
    generalize K / 336 = k33 at *
    generalize k12 % 4 = p4 at *
    generalize k48 % 7 = k7 at *
    generalize k48 % 23 = k23 at *
    generalize k11 % 3 = j3 at *
    generalize k33 % 3 = j33 at *
    generalize K % 12 = j12 at *
    have l12z : (j12 : Int) < 12 := by omega
    have l3z : (j3 : Int) < 3 := by omega
    obtain ⟨bb, hbb'⟩ : ∃ bb : Bool, ((k7 : Int) == 3) = bb := ⟨_, rfl⟩
    have HC3 := hide hc3
    obtain ⟨dx, hdx⟩ : ∃ dx, d12 j12 = dx := ⟨_, rfl⟩
    rw [hdx] at hc12 b12
    clear hdx hc3
    go_upto_region 8 with (fail)
    have hx1 : Ext wo ((wo.alloc (.cells #[.int .i64 0, .int .i64 1, .int .i64 2, .int .i64 1, .int .i64 2, .int .i64 1, .int .i64 3, .int .i64 4, .int .i64 5, .int .i64 6, .int .i64 1, .int .i64 4] 3)).alloc (.cells #[.int .i64 dx, .int .i64 p4, .int .i64 0, .bool bb] 66)) := ((Below.refl _ _).alloc (Nat.le_refl _) _).alloc (Nat.le_of_lt (by simp)) _
    have hb1 := heap_alloc2_new wo (.cells #[.int .i64 0, .int .i64 1, .int .i64 2, .int .i64 1, .int .i64 2, .int .i64 1, .int .i64 3, .int .i64 4, .int .i64 5, .int .i64 6, .int .i64 1, .int .i64 4] 3) (.cells #[.int .i64 dx, .int .i64 p4, .int .i64 0, .bool bb] 66)
    generalize (wo.alloc (.cells #[.int .i64 0, .int .i64 1, .int .i64 2, .int .i64 1, .int .i64 2, .int .i64 1, .int .i64 3, .int .i64 4, .int .i64 5, .int .i64 6, .int .i64 1, .int .i64 4] 3)).alloc (.cells #[.int .i64 dx, .int .i64 p4, .int .i64 0, .bool bb] 66) = W1 at hx1 hb1 ⊢
    obtain ⟨bx, hbx⟩ : ∃ b, wo.heap.size + 1 = b := ⟨_, rfl⟩
    rw [hbx] at hb1 ⊢
    have hbo : wo.heap.size ≤ bx := by omega
    have HB1 := hide (show BoxA W1 bx ⟨dx, p4, 0, bb⟩ from hb1)
    have HX1 := hide hx1
    clear hb1 hbx hx1 hc12 hbb' l12z m12 q12 w12 m4 m7
    by_cases e5 : k23 = 5
    ·have d5 : ((k23 : Int) == 5) = true := by simpa using (by omega : (k23 : Int) = 5)
     have c3 := HC3.out W1
     obtain ⟨px, hpx⟩ : ∃ px, d3 j3 = px := ⟨_, rfl⟩
     rw [hpx] at c3 b3
     have z1 := HB1.out.frozen 1
     have c1 := HB1.out.cell 1 _ rfl
     have hks := Keeps.of_set (X := fun q => q = bx) W1 bx 1 (.int .i64 px) rfl
     have hxs : Ext wo (W1.setCell ⟨bx, 1, none⟩ (.int .i64 px)) := Keeps.ext HX1.out hks (fun g hg => by omega)
     have hal : Ext (W1.setCell ⟨bx, 1, none⟩ (.int .i64 px)) ((W1.setCell ⟨bx, 1, none⟩ (.int .i64 px)).alloc (.cells #[.int .i64 (-1), .int .i64 4, .int .i64 9] 3)) := (Below.refl _ _).alloc (Nat.le_refl _) _
     have hbs : BoxA (W1.setCell ⟨bx, 1, none⟩ (.int .i64 px)) bx ⟨dx, px, 0, bb⟩ := HB1.out.set 1 _ rfl
     have HXS := hide (hxs.trans hal)
     have HBS := hide (hbs.ext hal)
     have hlb := HB1.out.lt
     clear hks hxs hal hbs hpx e5
     go_upto_region 10 with (fail)
     clear c3 c1 z1 hlb
     generalize (W1.setCell ⟨bx, 1, none⟩ (.int .i64 px)).alloc (.cells #[.int .i64 (-1), .int .i64 4, .int .i64 9] 3) = W2 at HXS HBS ⊢
     by_cases e0 : dx = 0
     ·have d0 : (dx == 0) = true := by simpa using e0
      clear e0
      have hwm : IntKind.i64.wrap (md + 1) = md + 1 := by rw [IntKind.wrap_i64]; omega
      have z2 := HBS.out.frozen 2
      have c0 := HBS.out.cell 0 _ rfl
      have c1 := HBS.out.cell 1 _ rfl
      have c2 := HBS.out.cell 2 _ rfl
      have c3 := HBS.out.cell 3 _ rfl
      obtain ⟨ve, hve⟩ : ∃ ve : Int, (md + 1) - (j33 : Int) = ve := ⟨_, rfl⟩
      have hwv : IntKind.i64.wrap ((md + 1) - (j33 : Int)) = ve := by rw [IntKind.wrap_i64]; omega
      have hvb : -2 ≤ ve ∧ ve ≤ 50 := by omega
      have hks := Keeps.of_set (X := fun q => q = bx) W2 bx 2 (.int .i64 ve) rfl
      have hxs : Ext wo (W2.setCell ⟨bx, 2, none⟩ (.int .i64 ve)) := Keeps.ext HXS.out hks (fun g hg => by omega)
      have hbs : BoxA (W2.setCell ⟨bx, 2, none⟩ (.int .i64 ve)) bx ⟨dx, px, ve, bb⟩ := HBS.out.set 2 _ rfl
      have HXV := hide hxs
      have HBV := hide hbs
      have HVB := hide hvb
      clear hks hxs hbs hve hvb
      go_upto_region 13 with (fail)
      clear c0 c1 c2 c3 z2 hwv
      generalize W2.setCell ⟨bx, 2, none⟩ (.int .i64 ve) = W3 at HXV HBV ⊢
      have c0 := HBV.out.cell 0 _ rfl
      have c1 := HBV.out.cell 1 _ rfl
      have c2 := HBV.out.cell 2 _ rfl
      have c3 := HBV.out.cell 3 _ rfl
      have hown := owns_ext HOWN.out HXV.out
      rw [HI.out] at hown
      have hwsz : w.heap.size ≤ W3.heap.size := by have := HEX.out.size; have := HXV.out.size; omega
      have hwi := HWI.out
      have hsn : (A ++ [(⟨dx, px, ve, bb⟩ : ActD)]).flatMap encA = A.flatMap encA ++ [.int .i64 dx, .int .i64 px, .int .i64 ve, .bool bb] := by
       rw [List.flatMap_append]
       rfl
      have HSN := hide hsn
      have HOV := hide hown
      clear hsn
      go_wp2_with (at_builtin; refine wpList_append_own _ (by rfl) _ _ 63 (by rfl) w.heap.size 66 i0 _ 4 32 Tryz.underlying63 hi hz0 hz1 hz2 rfl (by decide) _ i _ (by rfl) (hown.alloc _) ⟨W3.heap.size, 0, none⟩ 1 1 [.int .i64 dx, .int .i64 px, .int .i64 ve, .bool bb] (by rfl) (by rfl) (cells_new W3 [.int .i64 dx, .int .i64 px, .int .i64 ve, .bool bb] 66) (by simp [Value.oneCell']) (by unfold maxLen; omega) (by omega) (by simp; omega) ?_; intro v2 w2 hown2 hgrow2 _)
      go_roundw
      case rel =>
       have hl : (A ++ [(⟨dx, px, ve, bb⟩ : ActD)]).length = i + 1 := by rw [List.length_append, HI.out]; rfl
       refine ⟨A ++ [⟨dx, px, ve, bb⟩], (md + 1), by rw [hl]; omega, by rw [hl]; omega, by rw [hl] <;> first | rfl | go_num, rfl, by omega, by rw [hl]; omega, ⟨?_, ?_, ?_⟩⟩
       ·rw [hl, HSN.out]
        exact hown2
       ·intro y hy
        rcases List.mem_append.1 hy with hy | hy
        ·exact HFIT.out y hy
        ·rw [List.mem_singleton.1 hy]
         exact ⟨b12.1, b12.2, b3.1, b3.2, HVB.out.1, HVB.out.2⟩
       ·exact ext_app (HEX.out.trans HXV.out) ((Below.refl _ _).alloc (Nat.le_refl _) _) hown hgrow2
      case measure => (simp [intOf]) <;> omega
     ·have d0 : (dx == 0) = false := by simpa using e0
      clear e0
      have z2 := HBS.out.frozen 2
      have c0 := HBS.out.cell 0 _ rfl
      have c1 := HBS.out.cell 1 _ rfl
      have c2 := HBS.out.cell 2 _ rfl
      have c3 := HBS.out.cell 3 _ rfl
      obtain ⟨ve, hve⟩ : ∃ ve : Int, md - (j33 : Int) = ve := ⟨_, rfl⟩
      have hwv : IntKind.i64.wrap (md - (j33 : Int)) = ve := by rw [IntKind.wrap_i64]; omega
      have hvb : -2 ≤ ve ∧ ve ≤ 50 := by omega
      have hks := Keeps.of_set (X := fun q => q = bx) W2 bx 2 (.int .i64 ve) rfl
      have hxs : Ext wo (W2.setCell ⟨bx, 2, none⟩ (.int .i64 ve)) := Keeps.ext HXS.out hks (fun g hg => by omega)
      have hbs : BoxA (W2.setCell ⟨bx, 2, none⟩ (.int .i64 ve)) bx ⟨dx, px, ve, bb⟩ := HBS.out.set 2 _ rfl
      have HXV := hide hxs
      have HBV := hide hbs
      have HVB := hide hvb
      clear hks hxs hbs hve hvb
      go_upto_region 13 with (fail)
      clear c0 c1 c2 c3 z2 hwv
      generalize W2.setCell ⟨bx, 2, none⟩ (.int .i64 ve) = W3 at HXV HBV ⊢
      have c0 := HBV.out.cell 0 _ rfl
      have c1 := HBV.out.cell 1 _ rfl
      have c2 := HBV.out.cell 2 _ rfl
      have c3 := HBV.out.cell 3 _ rfl
      have hown := owns_ext HOWN.out HXV.out
      rw [HI.out] at hown
      have hwsz : w.heap.size ≤ W3.heap.size := by have := HEX.out.size; have := HXV.out.size; omega
      have hwi := HWI.out
      have hsn : (A ++ [(⟨dx, px, ve, bb⟩ : ActD)]).flatMap encA = A.flatMap encA ++ [.int .i64 dx, .int .i64 px, .int .i64 ve, .bool bb] := by
       rw [List.flatMap_append]
       rfl
      have HSN := hide hsn
      have HOV := hide hown
      clear hsn
      go_wp2_with (at_builtin; refine wpList_append_own _ (by rfl) _ _ 63 (by rfl) w.heap.size 66 i0 _ 4 32 Tryz.underlying63 hi hz0 hz1 hz2 rfl (by decide) _ i _ (by rfl) (hown.alloc _) ⟨W3.heap.size, 0, none⟩ 1 1 [.int .i64 dx, .int .i64 px, .int .i64 ve, .bool bb] (by rfl) (by rfl) (cells_new W3 [.int .i64 dx, .int .i64 px, .int .i64 ve, .bool bb] 66) (by simp [Value.oneCell']) (by unfold maxLen; omega) (by omega) (by simp; omega) ?_; intro v2 w2 hown2 hgrow2 _)
      go_roundw
      case rel =>
       have hl : (A ++ [(⟨dx, px, ve, bb⟩ : ActD)]).length = i + 1 := by rw [List.length_append, HI.out]; rfl
       refine ⟨A ++ [⟨dx, px, ve, bb⟩], md, by rw [hl]; omega, by rw [hl]; omega, by rw [hl] <;> first | rfl | go_num, rfl, by omega, by rw [hl]; omega, ⟨?_, ?_, ?_⟩⟩
       ·rw [hl, HSN.out]
        exact hown2
       ·intro y hy
        rcases List.mem_append.1 hy with hy | hy
        ·exact HFIT.out y hy
        ·rw [List.mem_singleton.1 hy]
         exact ⟨b12.1, b12.2, b3.1, b3.2, HVB.out.1, HVB.out.2⟩
       ·exact ext_app (HEX.out.trans HXV.out) ((Below.refl _ _).alloc (Nat.le_refl _) _) hown hgrow2
      case measure => (simp [intOf]) <;> omega
    ·have d5 : ((k23 : Int) == 5) = false := by simpa using (by omega : ¬ (k23 : Int) = 5)
     have HXS := hide HX1.out
     have HBS := hide HB1.out
     clear e5 HX1 HB1
     go_upto_region 10 with (fail)
     generalize W1 = W2 at *
     by_cases e0 : dx = 0
     ·have d0 : (dx == 0) = true := by simpa using e0
      clear e0
      have hwm : IntKind.i64.wrap (md + 1) = md + 1 := by rw [IntKind.wrap_i64]; omega
      have z2 := HBS.out.frozen 2
      have c0 := HBS.out.cell 0 _ rfl
      have c1 := HBS.out.cell 1 _ rfl
      have c2 := HBS.out.cell 2 _ rfl
      have c3 := HBS.out.cell 3 _ rfl
      obtain ⟨ve, hve⟩ : ∃ ve : Int, (md + 1) - (j33 : Int) = ve := ⟨_, rfl⟩
      have hwv : IntKind.i64.wrap ((md + 1) - (j33 : Int)) = ve := by rw [IntKind.wrap_i64]; omega
      have hvb : -2 ≤ ve ∧ ve ≤ 50 := by omega
      have hks := Keeps.of_set (X := fun q => q = bx) W2 bx 2 (.int .i64 ve) rfl
      have hxs : Ext wo (W2.setCell ⟨bx, 2, none⟩ (.int .i64 ve)) := Keeps.ext HXS.out hks (fun g hg => by omega)
      have hbs : BoxA (W2.setCell ⟨bx, 2, none⟩ (.int .i64 ve)) bx ⟨dx, (p4 : Int), ve, bb⟩ := HBS.out.set 2 _ rfl
      have HXV := hide hxs
      have HBV := hide hbs
      have HVB := hide hvb
      clear hks hxs hbs hve hvb
      go_upto_region 13 with (fail)
      clear c0 c1 c2 c3 z2 hwv
      generalize W2.setCell ⟨bx, 2, none⟩ (.int .i64 ve) = W3 at HXV HBV ⊢
      have c0 := HBV.out.cell 0 _ rfl
      have c1 := HBV.out.cell 1 _ rfl
      have c2 := HBV.out.cell 2 _ rfl
      have c3 := HBV.out.cell 3 _ rfl
      have hown := owns_ext HOWN.out HXV.out
      rw [HI.out] at hown
      have hwsz : w.heap.size ≤ W3.heap.size := by have := HEX.out.size; have := HXV.out.size; omega
      have hwi := HWI.out
      have hsn : (A ++ [(⟨dx, (p4 : Int), ve, bb⟩ : ActD)]).flatMap encA = A.flatMap encA ++ [.int .i64 dx, .int .i64 (p4 : Int), .int .i64 ve, .bool bb] := by
       rw [List.flatMap_append]
       rfl
      have HSN := hide hsn
      have HOV := hide hown
      clear hsn
      go_wp2_with (at_builtin; refine wpList_append_own _ (by rfl) _ _ 63 (by rfl) w.heap.size 66 i0 _ 4 32 Tryz.underlying63 hi hz0 hz1 hz2 rfl (by decide) _ i _ (by rfl) (hown.alloc _) ⟨W3.heap.size, 0, none⟩ 1 1 [.int .i64 dx, .int .i64 (p4 : Int), .int .i64 ve, .bool bb] (by rfl) (by rfl) (cells_new W3 [.int .i64 dx, .int .i64 (p4 : Int), .int .i64 ve, .bool bb] 66) (by simp [Value.oneCell']) (by unfold maxLen; omega) (by omega) (by simp; omega) ?_; intro v2 w2 hown2 hgrow2 _)
      go_roundw
      case rel =>
       have hl : (A ++ [(⟨dx, (p4 : Int), ve, bb⟩ : ActD)]).length = i + 1 := by rw [List.length_append, HI.out]; rfl
       refine ⟨A ++ [⟨dx, (p4 : Int), ve, bb⟩], (md + 1), by rw [hl]; omega, by rw [hl]; omega, by rw [hl] <;> first | rfl | go_num, rfl, by omega, by rw [hl]; omega, ⟨?_, ?_, ?_⟩⟩
       ·rw [hl, HSN.out]
        exact hown2
       ·intro y hy
        rcases List.mem_append.1 hy with hy | hy
        ·exact HFIT.out y hy
        ·rw [List.mem_singleton.1 hy]
         exact ⟨b12.1, b12.2, (by show -1 ≤ (p4 : Int); omega), (by show (p4 : Int) ≤ 9; omega), HVB.out.1, HVB.out.2⟩
       ·exact ext_app (HEX.out.trans HXV.out) ((Below.refl _ _).alloc (Nat.le_refl _) _) hown hgrow2
      case measure => (simp [intOf]) <;> omega
     ·have d0 : (dx == 0) = false := by simpa using e0
      clear e0
      have z2 := HBS.out.frozen 2
      have c0 := HBS.out.cell 0 _ rfl
      have c1 := HBS.out.cell 1 _ rfl
      have c2 := HBS.out.cell 2 _ rfl
      have c3 := HBS.out.cell 3 _ rfl
      obtain ⟨ve, hve⟩ : ∃ ve : Int, md - (j33 : Int) = ve := ⟨_, rfl⟩
      have hwv : IntKind.i64.wrap (md - (j33 : Int)) = ve := by rw [IntKind.wrap_i64]; omega
      have hvb : -2 ≤ ve ∧ ve ≤ 50 := by omega
      have hks := Keeps.of_set (X := fun q => q = bx) W2 bx 2 (.int .i64 ve) rfl
      have hxs : Ext wo (W2.setCell ⟨bx, 2, none⟩ (.int .i64 ve)) := Keeps.ext HXS.out hks (fun g hg => by omega)
      have hbs : BoxA (W2.setCell ⟨bx, 2, none⟩ (.int .i64 ve)) bx ⟨dx, (p4 : Int), ve, bb⟩ := HBS.out.set 2 _ rfl
      have HXV := hide hxs
      have HBV := hide hbs
      have HVB := hide hvb
      clear hks hxs hbs hve hvb
      go_upto_region 13 with (fail)
      clear c0 c1 c2 c3 z2 hwv
      generalize W2.setCell ⟨bx, 2, none⟩ (.int .i64 ve) = W3 at HXV HBV ⊢
      have c0 := HBV.out.cell 0 _ rfl
      have c1 := HBV.out.cell 1 _ rfl
      have c2 := HBV.out.cell 2 _ rfl
      have c3 := HBV.out.cell 3 _ rfl
      have hown := owns_ext HOWN.out HXV.out
      rw [HI.out] at hown
      have hwsz : w.heap.size ≤ W3.heap.size := by have := HEX.out.size; have := HXV.out.size; omega
      have hwi := HWI.out
      have hsn : (A ++ [(⟨dx, (p4 : Int), ve, bb⟩ : ActD)]).flatMap encA = A.flatMap encA ++ [.int .i64 dx, .int .i64 (p4 : Int), .int .i64 ve, .bool bb] := by
       rw [List.flatMap_append]
       rfl
      have HSN := hide hsn
      have HOV := hide hown
      clear hsn
      go_wp2_with (at_builtin; refine wpList_append_own _ (by rfl) _ _ 63 (by rfl) w.heap.size 66 i0 _ 4 32 Tryz.underlying63 hi hz0 hz1 hz2 rfl (by decide) _ i _ (by rfl) (hown.alloc _) ⟨W3.heap.size, 0, none⟩ 1 1 [.int .i64 dx, .int .i64 (p4 : Int), .int .i64 ve, .bool bb] (by rfl) (by rfl) (cells_new W3 [.int .i64 dx, .int .i64 (p4 : Int), .int .i64 ve, .bool bb] 66) (by simp [Value.oneCell']) (by unfold maxLen; omega) (by omega) (by simp; omega) ?_; intro v2 w2 hown2 hgrow2 _)
      go_roundw
      case rel =>
       have hl : (A ++ [(⟨dx, (p4 : Int), ve, bb⟩ : ActD)]).length = i + 1 := by rw [List.length_append, HI.out]; rfl
       refine ⟨A ++ [⟨dx, (p4 : Int), ve, bb⟩], md, by rw [hl]; omega, by rw [hl]; omega, by rw [hl] <;> first | rfl | go_num, rfl, by omega, by rw [hl]; omega, ⟨?_, ?_, ?_⟩⟩
       ·rw [hl, HSN.out]
        exact hown2
       ·intro y hy
        rcases List.mem_append.1 hy with hy | hy
        ·exact HFIT.out y hy
        ·rw [List.mem_singleton.1 hy]
         exact ⟨b12.1, b12.2, (by show -1 ≤ (p4 : Int); omega), (by show (p4 : Int) ≤ 9; omega), HVB.out.1, HVB.out.2⟩
       ·exact ext_app (HEX.out.trans HXV.out) ((Below.refl _ _).alloc (Nat.le_refl _) _) hown hgrow2
      case measure => (simp [intOf]) <;> omega
   ·have h40z : ¬ (i : Int) < 40 := by omega
    clear h40
    go_wp2
    go_ret
    first
    | exact ⟨_, A, rfl, HOWN.out, by rw [HI.out]; exact hA40, by rw [HI.out]; exact hAL, HFIT.out, HEX.out⟩
    | (have hown := HOWN.out; rw [HI.out] at hown; exact ⟨_, rfl, A, by rw [HI.out]; exact hown, by rw [HI.out]; exact hA40, by rw [HI.out]; exact hAL, HFIT.out, HEX.out⟩)
  ·have hltz : ¬ (i : Int) < L.length := by omega
   clear hlt
   go_wp2
   go_ret
   first
    | exact ⟨_, A, rfl, HOWN.out, by rw [HI.out]; exact hA40, by rw [HI.out]; exact hAL, HFIT.out, HEX.out⟩
    | (have hown := HOWN.out; rw [HI.out] at hown; exact ⟨_, rfl, A, by rw [HI.out]; exact hown, by rw [HI.out]; exact hA40, by rw [HI.out]; exact hAL, HFIT.out, HEX.out⟩)
end Go.Proofs.YtnnddjmdpplolaaGreatDoor
