
/- General lemmas of this seat's proofs: slices that read as lists. -/
import Derived.Test.YtoncfogihiapiaaRows
import Derived.WalkKit
import Derived.ProofKit
import Derived.OpenShut
import Derived.LoopTactic
import Derived.Outline
import Derived.Below
import Derived.BigQuiet
import Derived.Deep.QuietTactic
namespace Go.Proofs.Ytoncfogihiapiaa
open Go.ChangeShapes Go.WideShapes Go.ChangeAt Go.RowKit

theorem hide {p : Prop} (h : p) : Hid p := h
theorem ret_int {k : IntKind} {a b : Int} (h : a = b) : Ending.returned (.int k a) = .returned (.int k b) := by rw [h]
theorem ret_bool {a b : Bool} (h : a = b) : Ending.returned (.bool a) = .returned (.bool b) := by rw [h]

/-- what lay stands, blocks may have come -/
abbrev Ext (w w' : World) : Prop := Below w.heap.size w w'
theorem Below.drewN' {B : Nat} {a w : World} (h : Below B a w) (n : Nat) : Below B a (w.drewN n) := ⟨h.os, h.tape, h.output, h.size, h.block⟩
theorem Ext.trans {a b c : World} (h : Ext a b) (k : Ext b c) : Ext a c := Below.trans h (Below.mono k h.size)

/-- a slice value that reads, in w, as a list; each element of 'size' cells -/
def Sl {α : Type} (enc : α → List Value) (size : Nat) (w : World) (v : Value) (xs : List α) : Prop :=
  xs.length ≤ 9223372036854775807 ∧ ∃ a cap, v = .slice a xs.length cap ∧ (xs.length ≤ cap ∧ cap ≤ 9223372036854775807) ∧
    ∀ i x, xs[i]? = some x → ∃ b off, a = some ⟨b, off, none⟩ ∧ b < w.heap.size ∧ ∀ j u, (enc x)[j]? = some u → w.cell? ⟨b, off + i * size + j, none⟩ = some u

theorem Sl.ext {α : Type} {enc : α → List Value} {size : Nat} {w w' : World} {v : Value} {xs : List α} (h : Sl enc size w v xs) (e : Ext w w') : Sl enc size w' v xs := by
  obtain ⟨h1, a, cap, h2, hcap, h3⟩ := h
  refine ⟨h1, a, cap, h2, hcap, fun i x hi => ?_⟩
  obtain ⟨b, off, ha, hb, hc⟩ := h3 i x hi
  exact ⟨b, off, ha, Nat.lt_of_lt_of_le hb e.size, fun j u hu => (e.cell (p := ⟨b, off + i * size + j, none⟩) hb).trans (hc j u hu)⟩

def encI (z : Int) : List Value := [.int .i64 z]
def encU (z : Int) : List Value := [.int .u64 z]
def encP (p : Int × Int) : List Value := [.int .i64 p.1, .int .i64 p.2]
abbrev Ints := Sl encI 1
abbrev UInts := Sl encU 1
abbrev Parts := Sl encP 2
def I64 (z : Int) : Prop := -9223372036854775808 ≤ z ∧ z ≤ 9223372036854775807
def U64 (z : Int) : Prop := 0 ≤ z ∧ z ≤ 18446744073709551615
instance (z : Int) : Decidable (I64 z) := inferInstanceAs (Decidable (_ ∧ _))
instance (z : Int) : Decidable (U64 z) := inferInstanceAs (Decidable (_ ∧ _))

theorem Sl.shape {α : Type} {enc : α → List Value} {size : Nat} {w : World} {v : Value} {xs : List α} (h : Sl enc size w v xs) : (xs.length : Int) ≤ 9223372036854775807 ∧ ∃ a cap, v = .slice a xs.length cap :=
  ⟨by have := h.1; omega, let ⟨_, a, cap, h2, _⟩ := h; ⟨a, cap, h2⟩⟩
theorem ints_at {w : World} {a : Option Addr} {n cap : Nat} {xs : List Int} (h : Ints w (.slice a n cap) xs) (i : Nat) (hi : i < xs.length) :
    ∃ b off, a = some ⟨b, off, none⟩ ∧ b < w.heap.size ∧ w.cell? ⟨b, off + i, none⟩ = some (.int .i64 xs[i]) := by
  obtain ⟨_, a', cap', hv, _, hc⟩ := h
  cases hv
  obtain ⟨b, off, ha, hb, hc⟩ := hc i xs[i] (List.getElem?_eq_getElem hi)
  exact ⟨b, off, ha, hb, by simpa using hc 0 _ rfl⟩
theorem parts_at {w : World} {a : Option Addr} {n cap : Nat} {xs : List (Int × Int)} (h : Parts w (.slice a n cap) xs) (i : Nat) (hi : i < xs.length) :
    ∃ b off, a = some ⟨b, off, none⟩ ∧ b < w.heap.size ∧ w.cell? ⟨b, off + i * 2, none⟩ = some (.int .i64 xs[i].1) ∧ w.cell? ⟨b, off + i * 2 + 1, none⟩ = some (.int .i64 xs[i].2) := by
  obtain ⟨_, a', cap', hv, _, hc⟩ := h
  cases hv
  obtain ⟨b, off, ha, hb, hc⟩ := hc i xs[i] (List.getElem?_eq_getElem hi)
  exact ⟨b, off, ha, hb, by simpa using hc 0 _ rfl, by simpa using hc 1 _ rfl⟩

theorem getElem?_flatMap_enc {α : Type} {enc : α → List Value} {size : Nat} (hs : ∀ x, (enc x).length = size) (xs : List α) (i j : Nat) (x : α) (u : Value) (hx : xs[i]? = some x) (hj : (enc x)[j]? = some u) :
    (xs.flatMap enc)[i * size + j]? = some u := by
  induction xs generalizing i with
  | nil => simp at hx
  | cons y ys ih =>
    have hjl : j < size := by rw [← hs x]; exact (List.getElem?_eq_some_iff.1 hj).1
    cases i with
    | zero =>
      simp at hx; subst hx
      simp only [List.flatMap_cons, Nat.zero_mul, Nat.zero_add]
      rw [List.getElem?_append_left (by rw [hs]; exact hjl)]; exact hj
    | succ i =>
      simp at hx
      simp only [List.flatMap_cons]
      rw [List.getElem?_append_right (by rw [hs, Nat.add_mul]; omega), hs]
      have : (i + 1) * size + j - size = i * size + j := by rw [Nat.add_mul]; omega
      rw [this]
      exact ih i hx
theorem length_flatMap_enc {α : Type} {enc : α → List Value} {size : Nat} (hs : ∀ x, (enc x).length = size) (xs : List α) : (xs.flatMap enc).length = xs.length * size := by
  induction xs with
  | nil => simp
  | cons y ys ih => simp [hs, ih, Nat.add_mul]; omega
theorem add_cell (g j : Nat) : (⟨g, 0, none⟩ : Addr).add j = ⟨g, j, none⟩ := by unfold Addr.add; split <;> simp_all

theorem add_cell' (b o j : Nat) : (⟨b, o, none⟩ : Addr).add j = ⟨b, o + j, none⟩ := by unfold Addr.add; split <;> simp_all
/-- a row that the call owns reads as a list -/
theorem Sl.of_own {α : Type} {enc : α → List Value} {size : Nat} (hs : ∀ x, (enc x).length = size) {w : World} {base : Nat} {e : TypeId} {v : Value} {xs : List α}
    (h : w.ownsRow base e size v xs.length (xs.flatMap enc)) (hl : xs.length ≤ 9223372036854775807) : Sl enc size w v xs := by
  refine ⟨hl, ?_⟩
  rcases h.2 with ⟨hv, h0⟩ | ⟨g, cap, cur, hv, hb, hg, hn, hc, hcs, ht⟩
  · have : xs = [] := List.eq_nil_of_length_eq_zero h0
    subst this
    exact ⟨none, 0, hv, by simp, fun i x hi => by simp at hi⟩
  · refine ⟨_, cap, hv, ⟨hn, hc⟩, fun i x hi => ⟨g, 0, rfl, (Array.getElem?_eq_some_iff.1 hg).1, fun j u hu => ?_⟩⟩
    have := h.cells (g := g) (by simp [hv, Value.ownBlock]) (i * size + j) u (getElem?_flatMap_enc hs xs i j x u hi hu)
    rw [add_cell] at this
    rw [Nat.zero_add]
    exact this

/-- a new block's cells -/
theorem cells_new (w : World) (l : List Value) (t : TypeId) : ∀ j u, l[j]? = some u → (w.alloc (.cells l.toArray t)).cell? ((⟨w.heap.size, 0, none⟩ : Addr).add j) = some u := by
  intro j u hu
  rw [add_cell, World.cell?]
  have : (w.alloc (.cells l.toArray t)).heap[w.heap.size]? = some (.cells l.toArray t) := by
    show (w.heap.push _)[w.heap.size]? = _
    simp
  simp only [this]
  simpa using hu
theorem Ext.app {w wr w1 : World} {o : Obj} {e : TypeId} {size n : Nat} {v : Value} {xs : List Value} (hext : Ext w wr) (hown : wr.ownsRow w.heap.size e size v n xs) (hg : (wr.alloc o).grownBy w1 v.ownBlock) : Ext w w1 :=
  (Below.alloc hext hext.size o).grown hg (by have := hext.size; simp; omega) (fun k hk => (hown.lt k hk).1)
theorem Ext.appD {w wr w1 : World} {o : Obj} {e : TypeId} {size n : Nat} {v : Value} {xs : List Value} (hext : Ext w wr) (hown : wr.ownsRow w.heap.size e size v n xs) (hg : (wr.alloc o).drew.grownBy w1 v.ownBlock) : Ext w w1 :=
  ((Below.alloc hext hext.size o).drew).grown hg (by have := hext.size; simp; omega) (fun k hk => (hown.lt k hk).1)
theorem Ext.appD' {w wr w1 : World} {o : Obj} {row : Option Nat} (hext : Ext w wr) (hw : w.heap.size ≤ wr.heap.size) (hg : (wr.alloc o).drew.grownBy w1 row) (hr : ∀ k, row = some k → w.heap.size ≤ k := by intro k hk; simp [Value.ownBlock] at hk; omega) : Ext w w1 :=
  ((Below.alloc hext hw o).drew).grown hg (by simp; omega) hr
theorem take_snoc {α : Type} (l : List α) (k : Nat) (h : k < l.length) : l.take (k+1) = l.take k ++ [l[k]] := List.take_succ_eq_append_getElem h
theorem flat_snoc {α : Type} (enc : α → List Value) (l : List α) (k : Nat) (h : k < l.length) : (l.take (k+1)).flatMap enc = (l.take k).flatMap enc ++ enc l[k] := by
  rw [take_snoc l k h, List.flatMap_append]; simp
/-- an argument that is a slice of integers reads as a list -/
theorem row_sl {k : IntKind} {w : World} {a : Option Addr} {len cap : Nat} {zs : List Int}
    (h : (a = none ∧ len = 0 ∧ cap = 0 ∧ zs = []) ∨ ∃ x, a = some x ∧ len ≤ cap ∧ cap ≤ maxLen ∧ zs.length = cap ∧ (∀ i, i < zs.length → w.cell? (x.add i) = some (.int k (zs.getD i 0))) ∧ ∀ n ∈ zs, (Lit.int k n).wf = true) :
    Sl (fun z => [.int k z]) 1 w (.slice a len cap) (zs.take len) ∧ ∀ z ∈ zs.take len, (Lit.int k z).wf = true := by
  rcases h with ⟨rfl, rfl, rfl, rfl⟩ | ⟨x, rfl, hl, hm, hz, hc, hw⟩
  · exact ⟨⟨by simp, none, 0, rfl, by simp, fun i x hi => by simp at hi⟩, fun z hz => by simp at hz⟩
  · have hlen : (zs.take len).length = len := by rw [List.length_take]; omega
    refine ⟨⟨by rw [hlen]; have : maxLen = 9223372036854775807 := rfl; omega, some x, cap, by rw [hlen], by rw [hlen]; exact ⟨hl, hm⟩, ?_⟩, fun z hz => hw z (List.mem_of_mem_take hz)⟩
    intro i y hi
    have hil : i < len := by
      have := (List.getElem?_eq_some_iff.1 hi).1
      omega
    have hx : x = ⟨x.block, x.off, none⟩ := by
      have h0 := hc 0 (by omega)
      cases x with
      | mk b o s =>
        cases s with
        | none => rfl
        | some s =>
          simp only [Addr.add, if_true, World.cell?] at h0
          split at h0 <;> simp at h0
    refine ⟨x.block, x.off, by rw [← hx], World.block_lt_of_cell? w _ (hc 0 (by omega)), ?_⟩
    intro j u hu
    match j, hu with
    | 0, hu =>
      simp at hu
      subst hu
      have h1 := hc i (by omega)
      rw [hx] at h1
      have e : (⟨x.block, x.off, none⟩ : Addr).add i = ⟨x.block, x.off + i * 1 + 0, none⟩ := by rw [Nat.mul_one, Nat.add_zero]; exact add_cell' _ _ _
      rw [e] at h1
      rw [h1]
      rw [List.getElem?_take_of_lt hil] at hi
      simp [hi]

/-- block B is a row of n cells of type t, the i-th holds f i -/
def Arr (W : World) (B : Nat) (t : TypeId) (n : Nat) (f : Nat → Value) : Prop :=
  ∃ cs : Array Value, W.heap[B]? = some (.cells cs t (0, 0)) ∧ cs.size = n ∧ ∀ i : Nat, i < n → cs[i]? = some (f i)
theorem Arr.lt {W : World} {B : Nat} {t : TypeId} {n : Nat} {f : Nat → Value} (h : Arr W B t n f) : B < W.heap.size := by obtain ⟨cs, h, _⟩ := h; exact (Array.getElem?_eq_some_iff.1 h).1
theorem Arr.cell {W : World} {B : Nat} {t : TypeId} {n : Nat} {f : Nat → Value} (h : Arr W B t n f) (i : Nat) (hi : i < n) : W.cell? ⟨B, i, none⟩ = some (f i) := by
  obtain ⟨cs, hb, hs, hc⟩ := h
  simp [World.cell?, hb, hc i hi]
theorem Arr.frozen {W : World} {B : Nat} {t : TypeId} {n : Nat} {f : Nat → Value} (h : Arr W B t n f) (o : Nat) : W.frozen? ⟨B, o, none⟩ = false := by
  obtain ⟨cs, hb, hs, hc⟩ := h
  simp [World.frozen?, hb]
theorem Arr.ext {W W' : World} {B : Nat} {t : TypeId} {n : Nat} {f : Nat → Value} (h : Arr W B t n f) (e : Ext W W') : Arr W' B t n f := by
  have hl := h.lt
  obtain ⟨cs, hb, hs, hc⟩ := h
  exact ⟨cs, (e.block B hl).trans hb, hs, hc⟩
theorem Arr.set {W : World} {B : Nat} {t : TypeId} {n : Nat} {f : Nat → Value} (h : Arr W B t n f) (x : Nat) (v : Value) : Arr (W.setCell ⟨B, x, none⟩ v) B t n (fun i => if i = x then v else f i) := by
  obtain ⟨cs, hb, hs, hc⟩ := h
  obtain ⟨hlt, hk⟩ := Array.getElem?_eq_some_iff.1 hb
  refine ⟨cs.setIfInBounds x v, ?_, by simp [hs], ?_⟩
  · show (W.heap.modify B _)[B]? = _
    rw [Array.getElem?_eq_getElem (by rw [Array.size_modify]; exact hlt), Array.getElem_modify_self, hk]
    rfl
  · intro i hi
    rw [Array.getElem?_setIfInBounds]
    by_cases hx : x = i
    · simp [hx, hs, hi]
    · rw [if_neg hx, hc i hi]
      exact congrArg some (if_neg (fun e : i = x => hx e.symm)).symm
theorem Arr.other {W : World} {B B' : Nat} {t : TypeId} {n o : Nat} {f : Nat → Value} (h : Arr W B t n f) (hne : B ≠ B') (v : Value) : Arr (W.setCell ⟨B', o, none⟩ v) B t n f := by
  obtain ⟨cs, hb, hs, hc⟩ := h
  exact ⟨cs, (Below.heap_setCell W _ v B hne).trans hb, hs, hc⟩
theorem Arr.new (W : World) (cs : Array Value) (t : TypeId) (n : Nat) (f : Nat → Value) (hs : cs.size = n) (hc : ∀ i, i < n → cs[i]? = some (f i)) : Arr (W.alloc (.cells cs t)) W.heap.size t n f :=
  ⟨cs, by show (W.heap.push _)[W.heap.size]? = _; simp, hs, hc⟩
theorem Arr.congr {W : World} {B : Nat} {t : TypeId} {n : Nat} {f g : Nat → Value} (h : Arr W B t n f) (e : ∀ i, i < n → f i = g i) : Arr W B t n g := by
  obtain ⟨cs, hb, hs, hc⟩ := h
  exact ⟨cs, hb, hs, fun i hi => by rw [hc i hi, e i hi]⟩
theorem Arr.ints {W : World} {B : Nat} {t : TypeId} {n : Nat} {f : Nat → Int} (h : Arr W B t n (fun i => .int .i64 (f i))) (cap : Nat) (hn : n ≤ cap) (hn' : cap ≤ 9223372036854775807) : Ints W (.slice (some ⟨B, 0, none⟩) n cap) ((List.range n).map f) := by
  refine ⟨by simp; omega, some ⟨B, 0, none⟩, cap, by simp, by simpa using ⟨hn, hn'⟩, ?_⟩
  intro i x hi
  refine ⟨B, 0, rfl, h.lt, ?_⟩
  intro j u hu
  have hin : i < n := by have := (List.getElem?_eq_some_iff.1 hi).1; simpa using this
  match j, hu with
  | 0, hu =>
    simp [encI] at hu
    subst hu
    have := h.cell i hin
    simp [hin] at hi
    subst hi
    simpa using this

/-- the cells of a slice, in a row -/
theorem Sl.news {α : Type} {enc : α → List Value} {size : Nat} (hs : ∀ x, (enc x).length = size) (h0 : 0 < size) {w : World} {ad : Addr} {n cap : Nat} {xs : List α} (h : Sl enc size w (.slice (some ad) n cap) xs) :
    ∀ j u, (xs.flatMap enc)[j]? = some u → w.cell? (ad.add j) = some u := by
  obtain ⟨_, a', cap', hv, _, hc⟩ := h
  cases hv
  intro j u hu
  have hlen := length_flatMap_enc hs xs
  have hj : j < xs.length * size := by rw [← hlen]; exact (List.getElem?_eq_some_iff.1 hu).1
  have hi : j / size < xs.length := Nat.div_lt_of_lt_mul (by rw [Nat.mul_comm]; exact hj)
  have hr : j % size < size := Nat.mod_lt _ h0
  have he : j / size * size + j % size = j := by rw [Nat.mul_comm]; exact Nat.div_add_mod j size
  obtain ⟨b, off, ha, hb, hcell⟩ := hc (j / size) xs[j / size] (List.getElem?_eq_getElem hi)
  have hel : (enc xs[j / size])[j % size]? = some u := by
    have h1 := getElem?_flatMap_enc hs xs (j / size) (j % size) xs[j / size] ((enc xs[j / size])[j % size]'(by rw [hs]; exact hr)) (List.getElem?_eq_getElem hi) (List.getElem?_eq_getElem _)
    rw [he, hu] at h1
    rw [List.getElem?_eq_getElem (by rw [hs]; exact hr)]
    exact h1.symm
  have := hcell _ u hel
  cases ha
  rw [add_cell', ← he, ← Nat.add_assoc]
  exact this
theorem Sl.drop {α : Type} {enc : α → List Value} {size : Nat} {w : World} {b off n cap : Nat} {xs : List α} (h : Sl enc size w (.slice (some ⟨b, off, none⟩) n cap) xs) (k : Nat) (hk : k ≤ n) : Sl enc size w (.slice (some ⟨b, off + k * size, none⟩) (n - k) (cap - k)) (xs.drop k) := by
  obtain ⟨h1, a', cap', hv, h2, hc⟩ := h
  cases hv
  refine ⟨by rw [List.length_drop]; omega, _, _, by rw [List.length_drop], by rw [List.length_drop]; omega, ?_⟩
  intro i x hi
  rw [List.getElem?_drop] at hi
  obtain ⟨b', off', ha, hb, hcell⟩ := hc (k + i) x hi
  cases ha
  refine ⟨b, off + k * size, rfl, hb, fun j u hu => ?_⟩
  have := hcell j u hu
  rw [Nat.add_mul] at this
  rw [show off + k * size + i * size + j = off + (k * size + i * size) + j by omega]
  exact this
theorem Sl.take {α : Type} {enc : α → List Value} {size : Nat} {w : World} {a : Option Addr} {n cap : Nat} {xs : List α} (h : Sl enc size w (.slice a n cap) xs) (k : Nat) (hk : k ≤ n) : Sl enc size w (.slice a k cap) (xs.take k) := by
  obtain ⟨h1, a', cap', hv, h2, hc⟩ := h
  cases hv
  have hl : (xs.take k).length = k := by rw [List.length_take]; omega
  refine ⟨by rw [hl]; omega, a, cap, by rw [hl], by rw [hl]; omega, ?_⟩
  intro i x hi
  have hik : i < k := by have := (List.getElem?_eq_some_iff.1 hi).1; omega
  rw [List.getElem?_take_of_lt hik] at hi
  exact hc i x hi
theorem Sl.cap {α : Type} {enc : α → List Value} {size : Nat} {w : World} {a : Option Addr} {n cap : Nat} {xs : List α} (h : Sl enc size w (.slice a n cap) xs) : n = xs.length ∧ n ≤ cap ∧ cap ≤ 9223372036854775807 := by
  obtain ⟨h1, a', cap', hv, h2, hc⟩ := h
  cases hv
  exact ⟨rfl, h2⟩
theorem Sl.some {α : Type} {enc : α → List Value} {size : Nat} {w : World} {a : Option Addr} {n cap : Nat} {xs : List α} (h : Sl enc size w (.slice a n cap) xs) (hn : 0 < xs.length) : ∃ b off, a = .some ⟨b, off, none⟩ ∧ b < w.heap.size := by
  obtain ⟨h1, a', cap', hv, h2, hc⟩ := h
  cases hv
  obtain ⟨b, off, ha, hb, _⟩ := hc 0 xs[0] (List.getElem?_eq_getElem hn)
  exact ⟨b, off, ha, hb⟩
/-- 'append' to a row of the call's own, at a step of a region that draws its order -/
theorem step_append_own {P : Program} {w : World} {ops : Array Oper} {o : Oper} {a : Act} {K : Act → World → Prop} {Q : Exit → Act → World → Prop} {E : Prop} (hgd : o.guard = none) (s x : Operand) (t : TypeId)
    (ho : o.op = .call { callee := .builtin .append, args := #[s, x], argTypes := #[t, t] })
    (base : Nat) (e : TypeId) (i : TypeInfo) (z : Value) (size bytes : Nat) (ht : P.underlying t = .some (.slice e)) (hi : P.info? e = .some i) (hz : i.zero = .some z)
    (hsize : i.size = size) (hby : i.bytes = bytes) (hzs : z.cells.size = size) (hsz : 0 < size)
    (v : Value) (n : Nat) (xs : List Value) (hs : a.eval s = v) (hown : w.ownsRow base e size v n xs)
    (ad : Addr) (m c : Nat) (news : List Value) (hx : a.eval x = .slice (.some ad) m c) (hl : news.length = m * size) (hnews : ∀ j u, news[j]? = .some u → w.cell? (ad.add j) = .some u) (h1 : ∀ u ∈ news, u.oneCell' = true)
    (h63 : n + m ≤ maxLen) (hbytes : (n + m) * bytes ≤ 140737488355328) (hbase : base ≤ w.heap.size)
    (h : ∀ v' w', w'.ownsRow base e size v' (n + m) (xs ++ news) → w.grownBy w' v.ownBlock → (v' = .slice none 0 0 ↔ v = .slice none 0 0 ∧ m = 0) → K (a.put o.dst v') w') :
    if Region.wanted o (yielded ops a.tmps) = true then Oper.wp P o a w K Q else E := by
  have hw : Region.wanted o (yielded ops a.tmps) = true := by simp [Region.wanted, hgd]
  rw [if_pos hw]
  exact wp_append_own w s x t ho base e i z size bytes ht hi hz hsize hby hzs hsz v n xs hs hown ad m c news hx hl hnews h1 h63 hbytes hbase h
end Go.Proofs.Ytoncfogihiapiaa
