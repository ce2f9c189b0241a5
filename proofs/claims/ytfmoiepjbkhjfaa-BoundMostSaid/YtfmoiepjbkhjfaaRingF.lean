/- slices.SortFunc of points, at a row of the call's own. -/
import Derived.Shelf.SlSortCmp.NoneTotal
import Derived.Ground.SlsfProg
import Derived.Test.YtfmoiepjbkhjfaaRingS
namespace Go.Proofs
open Go.Shelf
def Try.lSortF_ren : Go.Shelf.Ren := ⟨fun | 6 => 38 | 15 => 52 | 14 => 54 | 28 => 72 | 29 => 73 | 20 => 74 | 21 => 75 | 22 => 76 | 23 => 77 | 24 => 78 | 25 => 79 | 26 => 80 | 27 => 81 | 46 => 87 | 47 => 83 | 48 => 84 | 49 => 88 | 50 => 89 | 57 => 91 | n => n, fun | 22 => 60 | 24 => 65 | 25 => 69 | 3 => 3 | 39 => 80 | 0 => 0 | 53 => 96 | 55 => 23 | 4 => 4 | 46 => 89 | 45 => 88 | 50 => 37 | 5 => 5 | 9 => 9 | 66 => 103 | 70 => 107 | 76 => 111 | 77 => 112 | n => n, fun | n => n⟩
theorem Try.lSortF : Go.Proofs.SlLaysF0.n6 Try.prog Try.lSortF_ren := {
  mixed := by kernel_rfl
  f6 := ⟨Try.f38.name, by decide, Try.func38.trans (congrArg some (by kernel_rfl))⟩
  f14 := ⟨Try.f54.name, by decide, Try.func54.trans (congrArg some (by kernel_rfl))⟩
  f15 := Try.func52.trans (congrArg some (by kernel_rfl))
  f20 := ⟨Try.f74.name, by decide, Try.func74.trans (congrArg some (by kernel_rfl))⟩
  f21 := ⟨Try.f75.name, by decide, Try.func75.trans (congrArg some (by kernel_rfl))⟩
  f22 := ⟨Try.f76.name, by decide, Try.func76.trans (congrArg some (by kernel_rfl))⟩
  f23 := ⟨Try.f77.name, by decide, Try.func77.trans (congrArg some (by kernel_rfl))⟩
  f24 := ⟨Try.f78.name, by decide, Try.func78.trans (congrArg some (by kernel_rfl))⟩
  f25 := ⟨Try.f79.name, by decide, Try.func79.trans (congrArg some (by kernel_rfl))⟩
  f26 := ⟨Try.f80.name, by decide, Try.func80.trans (congrArg some (by kernel_rfl))⟩
  f27 := ⟨Try.f81.name, by decide, Try.func81.trans (congrArg some (by kernel_rfl))⟩
  f28 := Try.func72.trans (congrArg some (by kernel_rfl))
  f29 := Try.func73.trans (congrArg some (by kernel_rfl))
  f46 := ⟨Try.f87.name, by decide, Try.func87.trans (congrArg some (by kernel_rfl))⟩
  f47 := Try.func83.trans (congrArg some (by kernel_rfl))
  f48 := Try.func84.trans (congrArg some (by kernel_rfl))
  f49 := ⟨Try.f88.name, by decide, Try.func88.trans (congrArg some (by kernel_rfl))⟩
  f50 := ⟨Try.f89.name, by decide, Try.func89.trans (congrArg some (by kernel_rfl))⟩
  f57 := ⟨Try.f91.name, by decide, Try.func91.trans (congrArg some (by kernel_rfl))⟩
  t0 := Try.underlying0
  a0 := Try.isAgg0
  z0 := Try.sizeOf0
  v0 := Try.zeroValue0
  t3 := Try.underlying3
  a3 := Try.isAgg3
  z3 := Try.sizeOf3
  v3 := Try.zeroValue3
  t4 := Try.underlying4
  a4 := Try.isAgg4
  z4 := Try.sizeOf4
  v4 := Try.zeroValue4
  t5 := Try.underlying5
  a5 := Try.isAgg5
  z5 := Try.sizeOf5
  v5 := Try.zeroValue5
  t9 := Try.underlying9
  a9 := Try.isAgg9
  z9 := Try.sizeOf9
  v9 := Try.zeroValue9
  t22 := Try.underlying60
  a22 := Try.isAgg60
  z22 := Try.sizeOf60
  v22 := Try.zeroValue60
  t25 := Try.underlying69
  a25 := Try.isAgg69
  z25 := Try.sizeOf69
  v25 := Try.zeroValue69
  t39 := Try.underlying80
  a39 := Try.isAgg80
  z39 := Try.sizeOf80
  v39 := Try.zeroValue80
  t45 := Try.underlying88
  a45 := Try.isAgg88
  z45 := Try.sizeOf88
  v45 := Try.zeroValue88
  t46 := Try.underlying89
  a46 := Try.isAgg89
  z46 := Try.sizeOf89
  v46 := Try.zeroValue89
  t50 := Try.underlying37
  a50 := Try.isAgg37
  z50 := Try.sizeOf37
  v50 := Try.zeroValue37
  t53 := Try.underlying96
  a53 := Try.isAgg96
  z53 := Try.sizeOf96
  v53 := Try.zeroValue96
  t55 := Try.underlying23
  a55 := Try.isAgg23
  z55 := Try.sizeOf23
  v55 := Try.zeroValue23
  t66 := Try.underlying103
  a66 := Try.isAgg103
  z66 := Try.sizeOf103
  v66 := Try.zeroValue103
  t70 := Try.underlying107
  a70 := Try.isAgg107
  z70 := Try.sizeOf107
  v70 := Try.zeroValue107
  t76 := Try.underlying111
  a76 := Try.isAgg111
  z76 := Try.sizeOf111
  v76 := Try.zeroValue111
  t77 := Try.underlying112
  a77 := Try.isAgg112
  z77 := Try.sizeOf112
  v77 := Try.zeroValue112 }
end Go.Proofs
namespace Go.Proofs.Ytfmoiepjbkhjfaa
open Go.RowKit Go.Sort Go.Shelf Go.Lib
theorem encQ_len (x : Int × Int) : (encQ x).length = 2 := rfl
theorem swoP : SWO (ltOf cfP) where
  irrefl x := by rw [ltOf_cfP]; simp [ltP]
  trans x y z h1 h2 := by rw [ltOf_cfP] at *; simp [ltP] at *; omega
  ntrans x y z h1 h2 := by rw [ltOf_cfP] at *; simp [ltP] at *; omega
theorem totP (x y : Int × Int) (h1 : ltOf cfP x y = false) (h2 : ltOf cfP y x = false) : x = y := by
  rw [ltOf_cfP] at *; simp [ltP] at *; exact Prod.ext (by omega) (by omega)
theorem holdsK_own {w : World} {base g cap n : Nat} {e : TypeId} {ps : List (Int × Int)} (h : w.ownsRow base e 2 (.slice (some ⟨g, 0, none⟩) n cap) n (ps.flatMap encQ)) : HoldsK encQ 2 w g 0 ps.toArray := by
  intro j hj
  have hj' : j < ps.length * 2 := by simpa [size_flatK] using hj
  have hi : j / 2 < ps.length := by omega
  have he : j / 2 * 2 + j % 2 = j := by omega
  refine ⟨?_, ?_⟩
  · have hg := get_flatK encQ 2 ps.toArray j (by simpa using hj')
    have h1 := getElem?_flatMap_enc encQ_len ps (j / 2) (j % 2) ps[j/2] ((encQ ps[j / 2])[j % 2]'(by rw [encQ_len]; omega)) (List.getElem?_eq_getElem hi) (List.getElem?_eq_getElem _)
    rw [he] at h1
    have h2 := h.cells (g := g) (by simp [Value.ownBlock]) j _ h1
    rw [add_cell] at h2
    rw [Nat.zero_add, h2]
    show _ = some (flatK encQ 2 ps.toArray)[j]!
    rw [hg]
    have hm : j % 2 < (encQ ps[j / 2]).length := by rw [encQ_len]; omega
    simp [getElem!_pos, hi, List.getElem?_eq_getElem hm]
  · rcases h.2 with ⟨e0, _⟩ | ⟨g', cap', cur, e0, hb, hg, _⟩
    · cases e0
    · cases e0
      simp [World.frozen?, hg]
theorem sortf_own {w : World} {base : Nat} {v : Value} {n : Nat} {ps : List (Int × Int)} (h : w.ownsRow base 65 2 v n (ps.flatMap encQ)) (hn : n < 1000000) (hb : base ≤ w.heap.size) :
    Calls Try.prog 38 #[v, .func (.func 39) #[] #[]] w fun e w' => e = .returned (.tuple #[]) ∧ Pts w' v (srtP ps) ∧ Below base w w' := by
  have hl : ps.length = n := by
    have := h.1
    rw [length_flatMap_enc encQ_len] at this
    omega
  rcases h.2 with ⟨rfl, h0⟩ | ⟨g, cap, cur, rfl, hbg, hg, hnc, hcm, hcs, _⟩
  · subst h0
    have hz : ps = [] := List.eq_nil_of_length_eq_zero hl
    subst hz
    refine (AnyF.slices_SortFunc_none Try.lSortF none 0 _ w).mono ?_
    rintro e w' ⟨rfl, rfl⟩
    exact ⟨rfl, ⟨by simp [srtP], none, 0, by simp [srtP], by simp [srtP], fun i x hi => by simp [srtP] at hi⟩, Below.refl _ _⟩
  · subst hl
    have hlt := (Array.getElem?_eq_some_iff.1 hg).1
    have hH := holdsK_own h
    have eg : ∀ args w, (callFunc 39 args).run Try.prog w = .ok (.enter 39 args) w := enters_of Try.func39 (by kernel_rfl) rfl
    have hcon := AnyQ.slices_SortFunc_total Try.lSortF 2 Try.isAgg65 Try.sizeOf65 encQ encQ_len (fun x u hu => by simp [encQ] at hu; rcases hu with rfl | rfl <;> rfl) cfP swoP 39 #[] g 0 cap ps.toArray w eg (fun _ _ _ _ x y => clos_any x y _) hH hlt (by simp; omega) totP
    refine Calls.mono hcon ?_
    rintro e w' ⟨rfl, q, os, rfl⟩
    have hs : (ps.toArray.toList.mergeSort fun x y => !(ltOf cfP) y x) = srtP ps := by
      unfold srtP
      congr 1
      funext x y
      rw [ltOf_cfP]; rfl
    rw [hs]
    have hsl : (srtP ps).length = ps.length := (srtP_perm ps).length_eq
    have hH2 := holdsK_sortWorldK_c encQ 2 w g 0 ps.toArray (srtP ps).toArray q os hH hlt (by simpa using hsl)
    have hsz : w.heap.size ≤ (putRowK encQ 2 (Sort.ahead w q) g 0 (srtP ps).toArray).heap.size := by simp [putRowK, putRow, mapBlock, Sort.ahead]
    refine ⟨rfl, ⟨by rw [hsl]; omega, some ⟨g, 0, none⟩, cap, by rw [hsl], by rw [hsl]; exact ⟨hnc, hcm⟩, ?_⟩, ?_⟩
    · intro i x hi
      have hil : i < (srtP ps).length := (List.getElem?_eq_some_iff.1 hi).1
      refine ⟨g, 0, rfl, ?_, ?_⟩
      · show g < (grow _ os).heap.size
        rw [size_grow]; omega
      · intro j u hu
        have hj : j < 2 := by rw [← encQ_len x]; exact (List.getElem?_eq_some_iff.1 hu).1
        have := (hH2.cell (i := i) (c := j) (by simpa using hil) hj).1
        rw [this]
        have hx : (srtP ps).toArray[i]! = x := by
          rw [List.getElem?_eq_getElem hil] at hi
          cases hi
          simp [hil]
        rw [hx]
        congr 1
        obtain ⟨h1, h2⟩ := List.getElem?_eq_some_iff.1 hu
        simp [h1, h2]
    · exact below_grow' (Go.Lib.below_putRow (Below.refl _ _) hbg) hsz os (Nat.le_trans hb hsz)
end Go.Proofs.Ytfmoiepjbkhjfaa
