
/- slices.SortFunc of points, at a row of the call's own. -/
import Derived.Shelf.SlSortCmp.NoneTotal
import Derived.Ground.SlsfProg
import Derived.Test.YtoncfogihiapiaaRingS
namespace Go.Proofs
open Go.Shelf
shelf_lay_g SlLaysF0.n6 Slsf 6 at Try 36 as Try.lSortF
end Go.Proofs
namespace Go.Proofs.Ytoncfogihiapiaa
open Go.RowKit Go.Sort Go.Shelf Go.Lib
theorem encQ_len (x : Int × Int) : (encQ x).length = 2 := rfl
theorem swoP : SWO (ltOf cfP) where
  irrefl x := by rw [ltOf_cfP]; simp [ltP]
  trans x y z h1 h2 := by rw [ltOf_cfP] at *; simp [ltP] at *; omega
  ntrans x y z h1 h2 := by rw [ltOf_cfP] at *; simp [ltP] at *; omega
theorem totP (x y : Int × Int) (h1 : ltOf cfP x y = false) (h2 : ltOf cfP y x = false) : x = y := by
  rw [ltOf_cfP] at *; simp [ltP] at *; exact Prod.ext (by omega) (by omega)
theorem holdsK_own {w : World} {base g cap n : Nat} {e : TypeId} {ps : List (Int × Int)} (h : w.ownsRow base e 2 (.slice (some ⟨g, 0, none⟩) n cap) n (ps.flatMap encQ)) : HoldsK encQ 2 w g 0 ps.toArray := by
  intro j hj
  have hj' : j < ps.length * 2 := by simpa [size_flatK] using hj
  have hi : j / 2 < ps.length := by omega
  have he : j / 2 * 2 + j % 2 = j := by omega
  refine ⟨?_, ?_⟩
  · have hg := get_flatK encQ 2 ps.toArray j (by simpa using hj')
    have h1 := getElem?_flatMap_enc encQ_len ps (j / 2) (j % 2) ps[j/2] ((encQ ps[j / 2])[j % 2]'(by rw [encQ_len]; omega)) (List.getElem?_eq_getElem hi) (List.getElem?_eq_getElem _)
    rw [he] at h1
    have h2 := h.cells (g := g) (by simp [Value.ownBlock]) j _ h1
    rw [add_cell] at h2
    rw [Nat.zero_add, h2]
    show _ = some (flatK encQ 2 ps.toArray)[j]!
    rw [hg]
    have hm : j % 2 < (encQ ps[j / 2]).length := by rw [encQ_len]; omega
    simp [getElem!_pos, hi, List.getElem?_eq_getElem hm]
  · rcases h.2 with ⟨e0, _⟩ | ⟨g', cap', cur, e0, hb, hg, _⟩
    · cases e0
    · cases e0
      simp [World.frozen?, hg]
theorem sortf_own {w : World} {base : Nat} {v : Value} {n : Nat} {ps : List (Int × Int)} (h : w.ownsRow base 69 2 v n (ps.flatMap encQ)) (hn : n < 1000000) (hb : base ≤ w.heap.size) :
    Calls Try.prog 36 #[v, .func (.func 37) #[] #[]] w fun e w' => e = .returned (.tuple #[]) ∧ Pts w' v (srtP ps) ∧ Below base w w' := by
  have hl : ps.length = n := by
    have := h.1
    rw [length_flatMap_enc encQ_len] at this
    omega
  rcases h.2 with ⟨rfl, h0⟩ | ⟨g, cap, cur, rfl, hbg, hg, hnc, hcm, hcs, _⟩
  · subst h0
    have hz : ps = [] := List.eq_nil_of_length_eq_zero hl
    subst hz
    refine (AnyF.slices_SortFunc_none Try.lSortF none 0 _ w).mono ?_
    rintro e w' ⟨rfl, rfl⟩
    exact ⟨rfl, ⟨by simp [srtP], none, 0, by simp [srtP], by simp [srtP], fun i x hi => by simp [srtP] at hi⟩, Below.refl _ _⟩
  · subst hl
    have hlt := (Array.getElem?_eq_some_iff.1 hg).1
    have hH := holdsK_own h
    have eg : ∀ args w, (callFunc 37 args).run Try.prog w = .ok (.enter 37 args) w := enters_of Try.func37 (by kernel_rfl) rfl
    have hcon := AnyQ.slices_SortFunc_total Try.lSortF 2 Try.isAgg69 Try.sizeOf69 encQ encQ_len (fun x u hu => by simp [encQ] at hu; rcases hu with rfl | rfl <;> rfl) cfP swoP 37 #[] g 0 cap ps.toArray w eg (fun _ _ _ _ x y => clos_any x y _) hH hlt (by simp; omega) totP
    refine Calls.mono hcon ?_
    rintro e w' ⟨rfl, q, os, rfl⟩
    have hs : (ps.toArray.toList.mergeSort fun x y => !(ltOf cfP) y x) = srtP ps := by
      unfold srtP
      congr 1
      funext x y
      rw [ltOf_cfP]; rfl
    rw [hs]
    have hsl : (srtP ps).length = ps.length := (srtP_perm ps).length_eq
    have hH2 := holdsK_sortWorldK_c encQ 2 w g 0 ps.toArray (srtP ps).toArray q os hH hlt (by simpa using hsl)
    have hsz : w.heap.size ≤ (putRowK encQ 2 (Sort.ahead w q) g 0 (srtP ps).toArray).heap.size := by simp [putRowK, putRow, mapBlock, Sort.ahead]
    refine ⟨rfl, ⟨by rw [hsl]; omega, some ⟨g, 0, none⟩, cap, by rw [hsl], by rw [hsl]; exact ⟨hnc, hcm⟩, ?_⟩, ?_⟩
    · intro i x hi
      have hil : i < (srtP ps).length := (List.getElem?_eq_some_iff.1 hi).1
      refine ⟨g, 0, rfl, ?_, ?_⟩
      · show g < (grow _ os).heap.size
        rw [size_grow]; omega
      · intro j u hu
        have hj : j < 2 := by rw [← encQ_len x]; exact (List.getElem?_eq_some_iff.1 hu).1
        have := (hH2.cell (i := i) (c := j) (by simpa using hil) hj).1
        rw [this]
        have hx : (srtP ps).toArray[i]! = x := by
          rw [List.getElem?_eq_getElem hil] at hi
          cases hi
          simp [hil]
        rw [hx]
        congr 1
        obtain ⟨h1, h2⟩ := List.getElem?_eq_some_iff.1 hu
        simp [h1, h2]
    · exact below_grow' (Go.Lib.below_putRow (Below.refl _ _) hbg) hsz os (Nat.le_trans hb hsz)
end Go.Proofs.Ytoncfogihiapiaa
