/- General lemmas of this seat's proofs: slices that read as lists. -/
import Derived.Test.YtgeddiondjoedaaRows
import Derived.WalkKit
import Derived.ProofKit
import Derived.OpenShut
import Derived.LoopTactic
import Derived.Outline
import Derived.Below
import Derived.BigQuiet
import Derived.Deep.QuietTactic
namespace Go.Proofs.Ytgeddiondjoedaa
open Go.ChangeShapes Go.WideShapes Go.ChangeAt Go.RowKit

theorem hide {p : Prop} (h : p) : Hid p := h
theorem ret_int {k : IntKind} {a b : Int} (h : a = b) : Ending.returned (.int k a) = .returned (.int k b) := by rw [h]
theorem ret_bool {a b : Bool} (h : a = b) : Ending.returned (.bool a) = .returned (.bool b) := by rw [h]

/-- what lay stands, blocks may have come -/
abbrev Ext (w w' : World) : Prop := Below w.heap.size w w'
theorem Below.drewN' {B : Nat} {a w : World} (h : Below B a w) (n : Nat) : Below B a (w.drewN n) := ⟨h.os, h.tape, h.output, h.size, h.block⟩
theorem Ext.trans {a b c : World} (h : Ext a b) (k : Ext b c) : Ext a c := Below.trans h (Below.mono k h.size)

/-- a slice value that reads, in w, as a list; each element of 'size' cells -/
def Sl {α : Type} (enc : α → List Value) (size : Nat) (w : World) (v : Value) (xs : List α) : Prop :=
  xs.length ≤ 9223372036854775807 ∧ ∃ a cap, v = .slice a xs.length cap ∧
    ∀ i x, xs[i]? = some x → ∃ b off, a = some ⟨b, off, none⟩ ∧ b < w.heap.size ∧ ∀ j u, (enc x)[j]? = some u → w.cell? ⟨b, off + i * size + j, none⟩ = some u

theorem Sl.ext {α : Type} {enc : α → List Value} {size : Nat} {w w' : World} {v : Value} {xs : List α} (h : Sl enc size w v xs) (e : Ext w w') : Sl enc size w' v xs := by
  obtain ⟨h1, a, cap, h2, h3⟩ := h
  refine ⟨h1, a, cap, h2, fun i x hi => ?_⟩
  obtain ⟨b, off, ha, hb, hc⟩ := h3 i x hi
  exact ⟨b, off, ha, Nat.lt_of_lt_of_le hb e.size, fun j u hu => (e.cell (p := ⟨b, off + i * size + j, none⟩) hb).trans (hc j u hu)⟩

def encI (z : Int) : List Value := [.int .i64 z]
def encU (z : Int) : List Value := [.int .u64 z]
def encP (p : Int × Int) : List Value := [.int .i64 p.1, .int .i64 p.2]
abbrev Ints := Sl encI 1
abbrev UInts := Sl encU 1
abbrev Parts := Sl encP 2
def I64 (z : Int) : Prop := -9223372036854775808 ≤ z ∧ z ≤ 9223372036854775807
def U64 (z : Int) : Prop := 0 ≤ z ∧ z ≤ 18446744073709551615
instance (z : Int) : Decidable (I64 z) := inferInstanceAs (Decidable (_ ∧ _))
instance (z : Int) : Decidable (U64 z) := inferInstanceAs (Decidable (_ ∧ _))

theorem Sl.shape {α : Type} {enc : α → List Value} {size : Nat} {w : World} {v : Value} {xs : List α} (h : Sl enc size w v xs) : (xs.length : Int) ≤ 9223372036854775807 ∧ ∃ a cap, v = .slice a xs.length cap :=
  ⟨by have := h.1; omega, let ⟨_, a, cap, h2, _⟩ := h; ⟨a, cap, h2⟩⟩
theorem ints_at {w : World} {a : Option Addr} {n cap : Nat} {xs : List Int} (h : Ints w (.slice a n cap) xs) (i : Nat) (hi : i < xs.length) :
    ∃ b off, a = some ⟨b, off, none⟩ ∧ b < w.heap.size ∧ w.cell? ⟨b, off + i, none⟩ = some (.int .i64 xs[i]) := by
  obtain ⟨_, a', cap', hv, hc⟩ := h
  cases hv
  obtain ⟨b, off, ha, hb, hc⟩ := hc i xs[i] (List.getElem?_eq_getElem hi)
  exact ⟨b, off, ha, hb, by simpa using hc 0 _ rfl⟩
theorem parts_at {w : World} {a : Option Addr} {n cap : Nat} {xs : List (Int × Int)} (h : Parts w (.slice a n cap) xs) (i : Nat) (hi : i < xs.length) :
    ∃ b off, a = some ⟨b, off, none⟩ ∧ b < w.heap.size ∧ w.cell? ⟨b, off + i * 2, none⟩ = some (.int .i64 xs[i].1) ∧ w.cell? ⟨b, off + i * 2 + 1, none⟩ = some (.int .i64 xs[i].2) := by
  obtain ⟨_, a', cap', hv, hc⟩ := h
  cases hv
  obtain ⟨b, off, ha, hb, hc⟩ := hc i xs[i] (List.getElem?_eq_getElem hi)
  exact ⟨b, off, ha, hb, by simpa using hc 0 _ rfl, by simpa using hc 1 _ rfl⟩

theorem getElem?_flatMap_enc {α : Type} {enc : α → List Value} {size : Nat} (hs : ∀ x, (enc x).length = size) (xs : List α) (i j : Nat) (x : α) (u : Value) (hx : xs[i]? = some x) (hj : (enc x)[j]? = some u) :
    (xs.flatMap enc)[i * size + j]? = some u := by
  induction xs generalizing i with
  | nil => simp at hx
  | cons y ys ih =>
    have hjl : j < size := by rw [← hs x]; exact (List.getElem?_eq_some_iff.1 hj).1
    cases i with
    | zero =>
      simp at hx; subst hx
      simp only [List.flatMap_cons, Nat.zero_mul, Nat.zero_add]
      rw [List.getElem?_append_left (by rw [hs]; exact hjl)]; exact hj
    | succ i =>
      simp at hx
      simp only [List.flatMap_cons]
      rw [List.getElem?_append_right (by rw [hs, Nat.add_mul]; omega), hs]
      have : (i + 1) * size + j - size = i * size + j := by rw [Nat.add_mul]; omega
      rw [this]
      exact ih i hx
theorem length_flatMap_enc {α : Type} {enc : α → List Value} {size : Nat} (hs : ∀ x, (enc x).length = size) (xs : List α) : (xs.flatMap enc).length = xs.length * size := by
  induction xs with
  | nil => simp
  | cons y ys ih => simp [hs, ih, Nat.add_mul]; omega
theorem add_cell (g j : Nat) : (⟨g, 0, none⟩ : Addr).add j = ⟨g, j, none⟩ := by unfold Addr.add; split <;> simp_all

theorem add_cell' (b o j : Nat) : (⟨b, o, none⟩ : Addr).add j = ⟨b, o + j, none⟩ := by unfold Addr.add; split <;> simp_all
/-- a row that the call owns reads as a list -/
theorem Sl.of_own {α : Type} {enc : α → List Value} {size : Nat} (hs : ∀ x, (enc x).length = size) {w : World} {base : Nat} {e : TypeId} {v : Value} {xs : List α}
    (h : w.ownsRow base e size v xs.length (xs.flatMap enc)) (hl : xs.length ≤ 9223372036854775807) : Sl enc size w v xs := by
  refine ⟨hl, ?_⟩
  rcases h.2 with ⟨hv, h0⟩ | ⟨g, cap, cur, hv, hb, hg, hn, hc, hcs, ht⟩
  · have : xs = [] := List.eq_nil_of_length_eq_zero h0
    subst this
    exact ⟨none, 0, hv, fun i x hi => by simp at hi⟩
  · refine ⟨_, cap, hv, fun i x hi => ⟨g, 0, rfl, (Array.getElem?_eq_some_iff.1 hg).1, fun j u hu => ?_⟩⟩
    have := h.cells (g := g) (by simp [hv, Value.ownBlock]) (i * size + j) u (getElem?_flatMap_enc hs xs i j x u hi hu)
    rw [add_cell] at this
    rw [Nat.zero_add]
    exact this

/-- a new block's cells -/
theorem cells_new (w : World) (l : List Value) (t : TypeId) : ∀ j u, l[j]? = some u → (w.alloc (.cells l.toArray t)).cell? ((⟨w.heap.size, 0, none⟩ : Addr).add j) = some u := by
  intro j u hu
  rw [add_cell, World.cell?]
  have : (w.alloc (.cells l.toArray t)).heap[w.heap.size]? = some (.cells l.toArray t) := by
    show (w.heap.push _)[w.heap.size]? = _
    simp
  simp only [this]
  simpa using hu
theorem Ext.app {w wr w1 : World} {o : Obj} {e : TypeId} {size n : Nat} {v : Value} {xs : List Value} (hext : Ext w wr) (hown : wr.ownsRow w.heap.size e size v n xs) (hg : (wr.alloc o).grownBy w1 v.ownBlock) : Ext w w1 :=
  (Below.alloc hext hext.size o).grown hg (by have := hext.size; simp; omega) (fun k hk => (hown.lt k hk).1)
theorem take_snoc {α : Type} (l : List α) (k : Nat) (h : k < l.length) : l.take (k+1) = l.take k ++ [l[k]] := List.take_succ_eq_append_getElem h
theorem flat_snoc {α : Type} (enc : α → List Value) (l : List α) (k : Nat) (h : k < l.length) : (l.take (k+1)).flatMap enc = (l.take k).flatMap enc ++ enc l[k] := by
  rw [take_snoc l k h, List.flatMap_append]; simp
/-- an argument that is a slice of integers reads as a list -/
theorem row_sl {k : IntKind} {w : World} {a : Option Addr} {len cap : Nat} {zs : List Int}
    (h : (a = none ∧ len = 0 ∧ cap = 0 ∧ zs = []) ∨ ∃ x, a = some x ∧ len ≤ cap ∧ cap ≤ maxLen ∧ zs.length = cap ∧ (∀ i, i < zs.length → w.cell? (x.add i) = some (.int k (zs.getD i 0))) ∧ ∀ n ∈ zs, (Lit.int k n).wf = true) :
    Sl (fun z => [.int k z]) 1 w (.slice a len cap) (zs.take len) ∧ ∀ z ∈ zs.take len, (Lit.int k z).wf = true := by
  rcases h with ⟨rfl, rfl, rfl, rfl⟩ | ⟨x, rfl, hl, hm, hz, hc, hw⟩
  · exact ⟨⟨by simp, none, 0, rfl, fun i x hi => by simp at hi⟩, fun z hz => by simp at hz⟩
  · have hlen : (zs.take len).length = len := by rw [List.length_take]; omega
    refine ⟨⟨by rw [hlen]; have : maxLen = 9223372036854775807 := rfl; omega, some x, cap, by rw [hlen], ?_⟩, fun z hz => hw z (List.mem_of_mem_take hz)⟩
    intro i y hi
    have hil : i < len := by
      have := (List.getElem?_eq_some_iff.1 hi).1
      omega
    have hx : x = ⟨x.block, x.off, none⟩ := by
      have h0 := hc 0 (by omega)
      cases x with
      | mk b o s =>
        cases s with
        | none => rfl
        | some s =>
          simp only [Addr.add, if_true, World.cell?] at h0
          split at h0 <;> simp at h0
    refine ⟨x.block, x.off, by rw [← hx], World.block_lt_of_cell? w _ (hc 0 (by omega)), ?_⟩
    intro j u hu
    match j, hu with
    | 0, hu =>
      simp at hu
      subst hu
      have h1 := hc i (by omega)
      rw [hx] at h1
      have e : (⟨x.block, x.off, none⟩ : Addr).add i = ⟨x.block, x.off + i * 1 + 0, none⟩ := by rw [Nat.mul_one, Nat.add_zero]; exact add_cell' _ _ _
      rw [e] at h1
      rw [h1]
      rw [List.getElem?_take_of_lt hil] at hi
      simp [hi]
end Go.Proofs.Ytgeddiondjoedaa
