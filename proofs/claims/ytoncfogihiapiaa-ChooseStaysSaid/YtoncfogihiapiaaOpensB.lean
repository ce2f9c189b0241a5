/- Arguments that are slices of integers, and arrays of two of these, opened. -/
import Derived.Deep.Slices
import Derived.ChangeSlices
import Derived.Test.YtoncfogihiapiaaBase
namespace Go.Proofs.Ytoncfogihiapiaa
open Go.ChangeShapes Go.WideShapes Go.ChangeAt Go.RowKit
theorem ints_of_cell {H : Type} {enc : TypeId × Value → H} {P : Program} {w : World} {base : Nat} {held : Bool} {t e : TypeId} {fuel : Nat} {c : Value} {x : DataW H × List MemPlace}
    (ht : P.underlying t = some (.slice e)) (he : P.underlying e = some (.int .i64)) (hc : P.cellsOf e = 1) (h : DataW.trod enc P w base (fun _ => true) held fuel t [c] = some x) :
    ∃ xs, Ints w c xs ∧ ∀ x ∈ xs, I64 x := by
  rcases open_ints ht he hc h with ⟨hcs, _⟩ | ⟨a, l, cp, zs, hcs, _, hl, hm, hz, _, hcell, hwz⟩
  · obtain rfl : c = .slice none 0 0 := by simpa using hcs
    exact ⟨[], ⟨by simp, none, 0, rfl, by simp, fun i x hi => by simp at hi⟩, fun p hp => by simp at hp⟩
  · obtain rfl : c = .slice (some a) l cp := by simpa using hcs
    have hr := row_sl (k := .i64) (w := w) (a := some a) (len := l) (cap := cp) (zs := zs) (.inr ⟨a, rfl, hl, hm, by simpa using hz, hcell, hwz⟩)
    exact ⟨zs.take l, hr.1, fun x hx => bounds_i64 (hr.2 x hx)⟩
theorem ints_open {H : Type} {enc : TypeId × Value → H} {P : Program} {w : World} {base : Nat} {held : Bool} {t e : TypeId} {r : Reach} {b0 : Nat} {v : Value} {d : DataW H} {pl : List MemPlace}
    (ht : P.underlying t = some (.slice e)) (he : P.underlying e = some (.int .i64)) (hc : P.cellsOf e = 1) (hv : Value.okWide P w r b0 t v) (h : DataW.Trod enc P w base (fun _ => true) held t v d pl) :
    ∃ xs, Ints w v xs ∧ ∀ x ∈ xs, I64 x := by
  obtain ⟨a, len, cap, rfl⟩ := okWide_slice ht hv
  obtain ⟨fuel, hf⟩ := h
  exact ints_of_cell ht he hc hf
theorem arr2_open {H : Type} {enc : TypeId × Value → H} {P : Program} {w : World} {base : Nat} {held : Bool} {t s e : TypeId} {r : Reach} {b0 : Nat} {v : Value} {d : DataW H} {pl : List MemPlace}
    (ht : P.underlying t = some (.array 2 s)) (hs : P.underlying s = some (.slice e)) (he : P.underlying e = some (.int .i64)) (hce : P.cellsOf e = 1) (hcs : P.cellsOf s = 1) (hct : P.cellsOf t = 2)
    (hv : Value.okWide P w r b0 t v) (h : DataW.Trod enc P w base (fun _ => true) held t v d pl) :
    ∃ v0 v1 xs ys, v = .agg #[v0, v1] ∧ Ints w v0 xs ∧ (∀ x ∈ xs, I64 x) ∧ Ints w v1 ys ∧ ∀ x ∈ ys, I64 x := by
  simp only [Value.okWide, ht] at hv
  obtain ⟨cs, rfl, hsz, _⟩ := hv
  rw [hct] at hsz
  obtain ⟨c0, c1, rfl⟩ : ∃ c0 c1, cs = #[c0, c1] := by
    rcases cs with ⟨l⟩
    match l, hsz with
    | [c0, c1], _ => exact ⟨c0, c1, rfl⟩
  obtain ⟨fuel, hf⟩ := h
  simp only [Value.cells] at hf
  obtain ⟨xs, m, _, _, _, hl, hx⟩ := DataW.trod_array ht hf
  have h0 := hx 0 (by omega)
  have h1 := hx 1 (by omega)
  rw [hcs] at h0 h1
  obtain ⟨y0, hy0⟩ : ∃ y, xs[0]? = some y := ⟨xs[0]'(by omega), List.getElem?_eq_getElem _⟩
  obtain ⟨y1, hy1⟩ : ∃ y, xs[1]? = some y := ⟨xs[1]'(by omega), List.getElem?_eq_getElem _⟩
  rw [hy0] at h0
  rw [hy1] at h1
  obtain ⟨a, ha, ha'⟩ := ints_of_cell hs he hce (by simpa using h0)
  obtain ⟨b, hb, hb'⟩ := ints_of_cell hs he hce (by simpa using h1)
  exact ⟨c0, c1, a, b, rfl, ha, ha', hb, hb'⟩
end Go.Proofs.Ytoncfogihiapiaa
