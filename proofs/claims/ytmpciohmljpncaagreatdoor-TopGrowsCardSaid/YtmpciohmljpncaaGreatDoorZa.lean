import Derived.Test.YtmpciohmljpncaaGreatDoorRows
import Derived.WalkKit
import Derived.ProofKit
import Derived.OpenShut
import Derived.LoopTactic
import Derived.Outline
import Derived.Below
import Derived.BigQuiet
import Derived.Deep.QuietTactic
import Derived.Laws.AppendOwnNone
import Derived.Lib.OwnKind
import Derived.Lib.SplitLaws
import Derived.Lib.IndexBytes
import Derived.Lib.IndexLaws
import Derived.Laws.RangeString
import Derived.Laws.RangeAny
import Derived.Shelf.GgClosure.StringsIndexFunc

/- General lemmas of this seat's proofs: slices that read as lists. -/
namespace Go.Proofs.YtmpciohmljpncaaGreatDoor
open Go.ChangeShapes Go.WideShapes Go.ChangeAt Go.RowKit

theorem hide {p : Prop} (h : p) : Hid p := h
theorem ret_int {k : IntKind} {a b : Int} (h : a = b) : Ending.returned (.int k a) = .returned (.int k b) := by rw [h]
theorem ret_bool {a b : Bool} (h : a = b) : Ending.returned (.bool a) = .returned (.bool b) := by rw [h]

/-- what lay stands, blocks may have come -/
abbrev Ext (w w' : World) : Prop := Below w.heap.size w w'
theorem Below.drewN' {B : Nat} {a w : World} (h : Below B a w) (n : Nat) : Below B a (w.drewN n) := ⟨h.os, h.tape, h.output, h.size, h.block⟩
theorem Ext.trans {a b c : World} (h : Ext a b) (k : Ext b c) : Ext a c := Below.trans h (Below.mono k h.size)

/-- a slice value that reads, in w, as a list; each element of 'size' cells -/
def Sl {α : Type} (enc : α → List Value) (size : Nat) (w : World) (v : Value) (xs : List α) : Prop :=
 xs.length ≤ 9223372036854775807 ∧ ∃ a cap, v = .slice a xs.length cap ∧ (xs.length ≤ cap ∧ cap ≤ 9223372036854775807) ∧
  ∀ i x, xs[i]? = some x → ∃ b off, a = some ⟨b, off, none⟩ ∧ b < w.heap.size ∧ ∀ j u, (enc x)[j]? = some u → w.cell? ⟨b, off + i * size + j, none⟩ = some u

theorem Sl.ext {α : Type} {enc : α → List Value} {size : Nat} {w w' : World} {v : Value} {xs : List α} (h : Sl enc size w v xs) (e : Ext w w') : Sl enc size w' v xs := by
 obtain ⟨h1, a, cap, h2, hcap, h3⟩ := h
 refine ⟨h1, a, cap, h2, hcap, fun i x hi => ?_⟩
 obtain ⟨b, off, ha, hb, hc⟩ := h3 i x hi
 exact ⟨b, off, ha, Nat.lt_of_lt_of_le hb e.size, fun j u hu => (e.cell (p := ⟨b, off + i * size + j, none⟩) hb).trans (hc j u hu)⟩

def encI (z : Int) : List Value := [.int .i64 z]
def encP (p : Int × Int) : List Value := [.int .i64 p.1, .int .i64 p.2]
abbrev Ints := Sl encI 1
abbrev Parts := Sl encP 2
def I64 (z : Int) : Prop := -9223372036854775808 ≤ z ∧ z ≤ 9223372036854775807
def U64 (z : Int) : Prop := 0 ≤ z ∧ z ≤ 18446744073709551615
instance (z : Int) : Decidable (I64 z) := inferInstanceAs (Decidable (_ ∧ _))
instance (z : Int) : Decidable (U64 z) := inferInstanceAs (Decidable (_ ∧ _))

theorem Sl.shape {α : Type} {enc : α → List Value} {size : Nat} {w : World} {v : Value} {xs : List α} (h : Sl enc size w v xs) : (xs.length : Int) ≤ 9223372036854775807 ∧ ∃ a cap, v = .slice a xs.length cap :=
 ⟨by have := h.1; omega, let ⟨_, a, cap, h2, _⟩ := h; ⟨a, cap, h2⟩⟩
theorem ints_at {w : World} {a : Option Addr} {n cap : Nat} {xs : List Int} (h : Ints w (.slice a n cap) xs) (i : Nat) (hi : i < xs.length) :
  ∃ b off, a = some ⟨b, off, none⟩ ∧ b < w.heap.size ∧ w.cell? ⟨b, off + i, none⟩ = some (.int .i64 xs[i]) := by
 obtain ⟨_, a', cap', hv, _, hc⟩ := h
 cases hv
 obtain ⟨b, off, ha, hb, hc⟩ := hc i xs[i] (List.getElem?_eq_getElem hi)
 exact ⟨b, off, ha, hb, by simpa using hc 0 _ rfl⟩
theorem parts_at {w : World} {a : Option Addr} {n cap : Nat} {xs : List (Int × Int)} (h : Parts w (.slice a n cap) xs) (i : Nat) (hi : i < xs.length) :
  ∃ b off, a = some ⟨b, off, none⟩ ∧ b < w.heap.size ∧ w.cell? ⟨b, off + i * 2, none⟩ = some (.int .i64 xs[i].1) ∧ w.cell? ⟨b, off + i * 2 + 1, none⟩ = some (.int .i64 xs[i].2) := by
 obtain ⟨_, a', cap', hv, _, hc⟩ := h
 cases hv
 obtain ⟨b, off, ha, hb, hc⟩ := hc i xs[i] (List.getElem?_eq_getElem hi)
 exact ⟨b, off, ha, hb, by simpa using hc 0 _ rfl, by simpa using hc 1 _ rfl⟩

theorem getElem?_flatMap_enc {α : Type} {enc : α → List Value} {size : Nat} (hs : ∀ x, (enc x).length = size) (xs : List α) (i j : Nat) (x : α) (u : Value) (hx : xs[i]? = some x) (hj : (enc x)[j]? = some u) :
  (xs.flatMap enc)[i * size + j]? = some u := by
 induction xs generalizing i with
 | nil => simp at hx
 | cons y ys ih =>
  have hjl : j < size := by rw [← hs x]; exact (List.getElem?_eq_some_iff.1 hj).1
  cases i with
  | zero =>
   simp at hx; subst hx
   simp only [List.flatMap_cons, Nat.zero_mul, Nat.zero_add]
   rw [List.getElem?_append_left (by rw [hs]; exact hjl)]; exact hj
  | succ i =>
   simp at hx
   simp only [List.flatMap_cons]
   rw [List.getElem?_append_right (by rw [hs, Nat.add_mul]; omega), hs]
   have : (i + 1) * size + j - size = i * size + j := by rw [Nat.add_mul]; omega
   rw [this]
   exact ih i hx
theorem length_flatMap_enc {α : Type} {enc : α → List Value} {size : Nat} (hs : ∀ x, (enc x).length = size) (xs : List α) : (xs.flatMap enc).length = xs.length * size := by
 induction xs with
 | nil => simp
 | cons y ys ih => simp [hs, ih, Nat.add_mul]; omega
theorem add_cell (g j : Nat) : (⟨g, 0, none⟩ : Addr).add j = ⟨g, j, none⟩ := by unfold Addr.add; split <;> simp_all

theorem add_cell' (b o j : Nat) : (⟨b, o, none⟩ : Addr).add j = ⟨b, o + j, none⟩ := by unfold Addr.add; split <;> simp_all
/-- a row that the call owns reads as a list -/
theorem Sl.of_own {α : Type} {enc : α → List Value} {size : Nat} (hs : ∀ x, (enc x).length = size) {w : World} {base : Nat} {e : TypeId} {v : Value} {xs : List α}
  (h : w.ownsRow base e size v xs.length (xs.flatMap enc)) (hl : xs.length ≤ 9223372036854775807) : Sl enc size w v xs := by
 refine ⟨hl, ?_⟩
 rcases h.2 with ⟨hv, h0⟩ | ⟨g, cap, cur, hv, hb, hg, hn, hc, hcs, ht⟩
 ·have : xs = [] := List.eq_nil_of_length_eq_zero h0
  subst this
  exact ⟨none, 0, hv, by simp, fun i x hi => by simp at hi⟩
 ·refine ⟨_, cap, hv, ⟨hn, hc⟩, fun i x hi => ⟨g, 0, rfl, (Array.getElem?_eq_some_iff.1 hg).1, fun j u hu => ?_⟩⟩
  have := h.cells (g := g) (by simp [hv, Value.ownBlock]) (i * size + j) u (getElem?_flatMap_enc hs xs i j x u hi hu)
  rw [add_cell] at this
  rw [Nat.zero_add]
  exact this

theorem Ext.app {w wr w1 : World} {o : Obj} {e : TypeId} {size n : Nat} {v : Value} {xs : List Value} (hext : Ext w wr) (hown : wr.ownsRow w.heap.size e size v n xs) (hg : (wr.alloc o).grownBy w1 v.ownBlock) : Ext w w1 :=
 (Below.alloc hext hext.size o).grown hg (by have := hext.size; simp; omega) (fun k hk => (hown.lt k hk).1)
theorem take_snoc {α : Type} (l : List α) (k : Nat) (h : k < l.length) : l.take (k+1) = l.take k ++ [l[k]] := List.take_succ_eq_append_getElem h
/-- an argument that is a slice of integers reads as a list -/
theorem row_sl {k : IntKind} {w : World} {a : Option Addr} {len cap : Nat} {zs : List Int}
  (h : (a = none ∧ len = 0 ∧ cap = 0 ∧ zs = []) ∨ ∃ x, a = some x ∧ len ≤ cap ∧ cap ≤ maxLen ∧ zs.length = cap ∧ (∀ i, i < zs.length → w.cell? (x.add i) = some (.int k (zs.getD i 0))) ∧ ∀ n ∈ zs, (Lit.int k n).wf = true) :
  Sl (fun z => [.int k z]) 1 w (.slice a len cap) (zs.take len) ∧ ∀ z ∈ zs.take len, (Lit.int k z).wf = true := by
 rcases h with ⟨rfl, rfl, rfl, rfl⟩ | ⟨x, rfl, hl, hm, hz, hc, hw⟩
 ·exact ⟨⟨by simp, none, 0, rfl, by simp, fun i x hi => by simp at hi⟩, fun z hz => by simp at hz⟩
 ·have hlen : (zs.take len).length = len := by rw [List.length_take]; omega
  refine ⟨⟨by rw [hlen]; have : maxLen = 9223372036854775807 := rfl; omega, some x, cap, by rw [hlen], by rw [hlen]; exact ⟨hl, hm⟩, ?_⟩, fun z hz => hw z (List.mem_of_mem_take hz)⟩
  intro i y hi
  have hil : i < len := by
   have := (List.getElem?_eq_some_iff.1 hi).1
   omega
  have hx : x = ⟨x.block, x.off, none⟩ := by
   have h0 := hc 0 (by omega)
   cases x with
   | mk b o s =>
    cases s with
    | none => rfl
    | some s =>
     simp only [Addr.add, if_true, World.cell?] at h0
     split at h0 <;> simp at h0
  refine ⟨x.block, x.off, by rw [← hx], World.block_lt_of_cell? w _ (hc 0 (by omega)), ?_⟩
  intro j u hu
  match j, hu with
  | 0, hu =>
   simp at hu
   subst hu
   have h1 := hc i (by omega)
   rw [hx] at h1
   have e : (⟨x.block, x.off, none⟩ : Addr).add i = ⟨x.block, x.off + i * 1 + 0, none⟩ := by rw [Nat.mul_one, Nat.add_zero]; exact add_cell' _ _ _
   rw [e] at h1
   rw [h1]
   rw [List.getElem?_take_of_lt hil] at hi
   simp [hi]

/-- the cells of a slice, in a row -/
theorem Sl.news {α : Type} {enc : α → List Value} {size : Nat} (hs : ∀ x, (enc x).length = size) (h0 : 0 < size) {w : World} {ad : Addr} {n cap : Nat} {xs : List α} (h : Sl enc size w (.slice (some ad) n cap) xs) :
  ∀ j u, (xs.flatMap enc)[j]? = some u → w.cell? (ad.add j) = some u := by
 obtain ⟨_, a', cap', hv, _, hc⟩ := h
 cases hv
 intro j u hu
 have hlen := length_flatMap_enc hs xs
 have hj : j < xs.length * size := by rw [← hlen]; exact (List.getElem?_eq_some_iff.1 hu).1
 have hi : j / size < xs.length := Nat.div_lt_of_lt_mul (by rw [Nat.mul_comm]; exact hj)
 have hr : j % size < size := Nat.mod_lt _ h0
 have he : j / size * size + j % size = j := by rw [Nat.mul_comm]; exact Nat.div_add_mod j size
 obtain ⟨b, off, ha, hb, hcell⟩ := hc (j / size) xs[j / size] (List.getElem?_eq_getElem hi)
 have hel : (enc xs[j / size])[j % size]? = some u := by
  have h1 := getElem?_flatMap_enc hs xs (j / size) (j % size) xs[j / size] ((enc xs[j / size])[j % size]'(by rw [hs]; exact hr)) (List.getElem?_eq_getElem hi) (List.getElem?_eq_getElem _)
  rw [he, hu] at h1
  rw [List.getElem?_eq_getElem (by rw [hs]; exact hr)]
  exact h1.symm
 have := hcell _ u hel
 cases ha
 rw [add_cell', ← he, ← Nat.add_assoc]
 exact this
theorem Sl.drop {α : Type} {enc : α → List Value} {size : Nat} {w : World} {b off n cap : Nat} {xs : List α} (h : Sl enc size w (.slice (some ⟨b, off, none⟩) n cap) xs) (k : Nat) (hk : k ≤ n) : Sl enc size w (.slice (some ⟨b, off + k * size, none⟩) (n - k) (cap - k)) (xs.drop k) := by
 obtain ⟨h1, a', cap', hv, h2, hc⟩ := h
 cases hv
 refine ⟨by rw [List.length_drop]; omega, _, _, by rw [List.length_drop], by rw [List.length_drop]; omega, ?_⟩
 intro i x hi
 rw [List.getElem?_drop] at hi
 obtain ⟨b', off', ha, hb, hcell⟩ := hc (k + i) x hi
 cases ha
 refine ⟨b, off + k * size, rfl, hb, fun j u hu => ?_⟩
 have := hcell j u hu
 rw [Nat.add_mul] at this
 rw [show off + k * size + i * size + j = off + (k * size + i * size) + j by omega]
 exact this
theorem Sl.take {α : Type} {enc : α → List Value} {size : Nat} {w : World} {a : Option Addr} {n cap : Nat} {xs : List α} (h : Sl enc size w (.slice a n cap) xs) (k : Nat) (hk : k ≤ n) : Sl enc size w (.slice a k cap) (xs.take k) := by
 obtain ⟨h1, a', cap', hv, h2, hc⟩ := h
 cases hv
 have hl : (xs.take k).length = k := by rw [List.length_take]; omega
 refine ⟨by rw [hl]; omega, a, cap, by rw [hl], by rw [hl]; omega, ?_⟩
 intro i x hi
 have hik : i < k := by have := (List.getElem?_eq_some_iff.1 hi).1; omega
 rw [List.getElem?_take_of_lt hik] at hi
 exact hc i x hi
theorem Sl.cap {α : Type} {enc : α → List Value} {size : Nat} {w : World} {a : Option Addr} {n cap : Nat} {xs : List α} (h : Sl enc size w (.slice a n cap) xs) : n = xs.length ∧ n ≤ cap ∧ cap ≤ 9223372036854775807 := by
 obtain ⟨h1, a', cap', hv, h2, hc⟩ := h
 cases hv
 exact ⟨rfl, h2⟩
theorem Sl.some {α : Type} {enc : α → List Value} {size : Nat} {w : World} {a : Option Addr} {n cap : Nat} {xs : List α} (h : Sl enc size w (.slice a n cap) xs) (hn : 0 < xs.length) : ∃ b off, a = .some ⟨b, off, none⟩ ∧ b < w.heap.size := by
 obtain ⟨h1, a', cap', hv, h2, hc⟩ := h
 cases hv
 obtain ⟨b, off, ha, hb, _⟩ := hc 0 xs[0] (List.getElem?_eq_getElem hn)
 exact ⟨b, off, ha, hb⟩
/-- 'append' to a row of the call's own, at a step of a region that draws its order -/
theorem step_append_own {P : Program} {w : World} {ops : Array Oper} {o : Oper} {a : Act} {K : Act → World → Prop} {Q : Exit → Act → World → Prop} {E : Prop} (hgd : o.guard = none) (s x : Operand) (t : TypeId)
  (ho : o.op = .call { callee := .builtin .append, args := #[s, x], argTypes := #[t, t] })
  (base : Nat) (e : TypeId) (i : TypeInfo) (z : Value) (size bytes : Nat) (ht : P.underlying t = .some (.slice e)) (hi : P.info? e = .some i) (hz : i.zero = .some z)
  (hsize : i.size = size) (hby : i.bytes = bytes) (hzs : z.cells.size = size) (hsz : 0 < size)
  (v : Value) (n : Nat) (xs : List Value) (hs : a.eval s = v) (hown : w.ownsRow base e size v n xs)
  (ad : Addr) (m c : Nat) (news : List Value) (hx : a.eval x = .slice (.some ad) m c) (hl : news.length = m * size) (hnews : ∀ j u, news[j]? = .some u → w.cell? (ad.add j) = .some u) (h1 : ∀ u ∈ news, u.oneCell' = true)
  (h63 : n + m ≤ maxLen) (hbytes : (n + m) * bytes ≤ 140737488355328) (hbase : base ≤ w.heap.size)
  (h : ∀ v' w', w'.ownsRow base e size v' (n + m) (xs ++ news) → w.grownBy w' v.ownBlock → (v' = .slice none 0 0 ↔ v = .slice none 0 0 ∧ m = 0) → K (a.put o.dst v') w') :
  if Region.wanted o (yielded ops a.tmps) = true then Oper.wp P o a w K Q else E := by
 have hw : Region.wanted o (yielded ops a.tmps) = true := by simp [Region.wanted, hgd]
 rw [if_pos hw]
 exact wp_append_own w s x t ho base e i z size bytes ht hi hz hsize hby hzs hsz v n xs hs hown ad m c news hx hl hnews h1 h63 hbytes hbase h
end Go.Proofs.YtmpciohmljpncaaGreatDoor

/- Worlds that keep blocks; 'append' of any slice to a row of the call's own. -/
namespace Go.Proofs.YtmpciohmljpncaaGreatDoor
open Go.ChangeShapes Go.WideShapes Go.ChangeAt Go.RowKit
/-- all blocks but those of X stand; blocks may have come -/
structure Keeps (X : Nat → Prop) (w w' : World) : Prop where
 os : w'.os = w.os
 tape : w'.tape = w.tape
 output : w'.output = w.output
 size : w.heap.size ≤ w'.heap.size
 block : ∀ k, k < w.heap.size → ¬ X k → w'.heap[k]? = w.heap[k]?
theorem Keeps.of_ext {X : Nat → Prop} {w w' : World} (h : Ext w w') : Keeps X w w' := ⟨h.os, h.tape, h.output, h.size, fun k hk _ => h.block k hk⟩
theorem Keeps.refl (X : Nat → Prop) (w : World) : Keeps X w w := ⟨rfl, rfl, rfl, Nat.le_refl _, fun _ _ _ => rfl⟩
theorem Keeps.trans {X : Nat → Prop} {a b c : World} (h : Keeps X a b) (k : Keeps X b c) : Keeps X a c :=
 ⟨k.os.trans h.os, k.tape.trans h.tape, k.output.trans h.output, Nat.le_trans h.size k.size, fun i hi hx => (k.block i (Nat.lt_of_lt_of_le hi h.size) hx).trans (h.block i hi hx)⟩
theorem Keeps.of_grown {X : Nat → Prop} {w w' : World} {row : Option Nat} (h : w.grownBy w' row) (hx : ∀ k, row = some k → X k) : Keeps X w w' :=
 ⟨h.os, h.tape, h.output, h.size, fun k hk hn => h.block k hk fun e => hn (hx k e.symm)⟩
theorem Keeps.of_set {X : Nat → Prop} (w : World) (b o : Nat) (v : Value) (hx : X b) : Keeps X w (w.setCell ⟨b, o, none⟩ v) :=
 ⟨rfl, rfl, rfl, by simp [World.setCell], fun k _ hn => Below.heap_setCell _ _ _ _ (fun e => hn (e ▸ hx))⟩
theorem Keeps.mono {X Y : Nat → Prop} {w w' : World} (h : Keeps X w w') (hx : ∀ k, X k → Y k) : Keeps Y w w' := ⟨h.os, h.tape, h.output, h.size, fun k hk hn => h.block k hk fun hX => hn (hx k hX)⟩
theorem Keeps.below {X : Nat → Prop} {B : Nat} {w w' : World} (h : Keeps X w w') (hB : B ≤ w.heap.size) (hx : ∀ k, X k → B ≤ k) : Below B w w' :=
 ⟨h.os, h.tape, h.output, h.size, fun k hk => h.block k (by omega) fun e => by have := hx k e; omega⟩
theorem Keeps.ext {X : Nat → Prop} {w0 w w' : World} (h0 : Ext w0 w) (h : Keeps X w w') (hx : ∀ k, X k → w0.heap.size ≤ k) : Ext w0 w' := Below.trans h0 (h.below h0.size hx)
theorem Keeps.cell {X : Nat → Prop} {w w' : World} (h : Keeps X w w') {p : Addr} (hp : p.block < w.heap.size) (hx : ¬ X p.block) : w'.cell? p = w.cell? p := World.cell?_of_block (w := w) (h.block p.block hp hx)
theorem owns_keep {w w' : World} {base : Nat} {e : TypeId} {size : Nat} {v : Value} {n : Nat} {xs : List Value} (h : w.ownsRow base e size v n xs) (hk : ∀ g, v.ownBlock = some g → w'.heap[g]? = w.heap[g]?) : w'.ownsRow base e size v n xs := by
 obtain ⟨h1, h2⟩ := h
 refine ⟨h1, ?_⟩
 rcases h2 with h2 | ⟨g, cap, cur, hv, hg, hh, r⟩
 ·exact .inl h2
 ·exact .inr ⟨g, cap, cur, hv, hg, by rw [hk g (by rw [hv]; rfl)]; exact hh, r⟩
theorem owns_keeps {X : Nat → Prop} {w w' : World} {base : Nat} {e : TypeId} {size : Nat} {v : Value} {n : Nat} {xs : List Value} (h : w.ownsRow base e size v n xs) (k : Keeps X w w') (hx : ∀ g, v.ownBlock = some g → ¬ X g) : w'.ownsRow base e size v n xs :=
 owns_keep h fun g hg => k.block g (h.lt g hg).2 (hx g hg)
theorem owns_ext {w w' : World} {base : Nat} {e : TypeId} {size : Nat} {v : Value} {n : Nat} {xs : List Value} (h : w.ownsRow base e size v n xs) (k : Ext w w') : w'.ownsRow base e size v n xs :=
 owns_keep h fun g hg => k.block g (h.lt g hg).2
/-- a row's block is of the row's type -/
theorem owns_type {w : World} {base : Nat} {e : TypeId} {size : Nat} {v : Value} {n : Nat} {xs : List Value} (h : w.ownsRow base e size v n xs) {g : Nat} (hg : v.ownBlock = some g) {cs : Array Value} {e' : TypeId} {f : Nat × Nat} (hh : w.heap[g]? = some (.cells cs e' f)) : e' = e := by
 rcases h.2 with ⟨rfl, _⟩ | ⟨g', cap, cur, rfl, _, hc, _⟩
 ·cases hg
 ·cases hg
  rw [hh] at hc
  cases hc
  rfl
theorem owns_ne {w : World} {base base' : Nat} {e e' : TypeId} {size size' : Nat} {v v' : Value} {n n' : Nat} {xs xs' : List Value} (h : w.ownsRow base e size v n xs) (h' : w.ownsRow base' e' size' v' n' xs') (hne : e ≠ e') : ∀ g, v.ownBlock = some g → v'.ownBlock ≠ some g := by
 intro g hg hg'
 rcases h.2 with ⟨rfl, _⟩ | ⟨g1, cap, cur, rfl, _, hc, _⟩
 ·cases hg
 ·cases hg
  exact hne (owns_type h' hg' hc)
theorem owns_shape {w : World} {base : Nat} {e : TypeId} {size : Nat} {v : Value} {n : Nat} {xs : List Value} (h : w.ownsRow base e size v n xs) : ∃ a c, v = .slice a n c := by
 rcases h.2 with ⟨rfl, rfl⟩ | ⟨g, cap, cur, rfl, _⟩
 ·exact ⟨_, _, rfl⟩
 ·exact ⟨_, _, rfl⟩
theorem owns_form {w : World} {base : Nat} {e : TypeId} {size : Nat} {v : Value} {n : Nat} {xs : List Value} (h : w.ownsRow base e size v n xs) (hn : 0 < n) : ∃ g c, v = .slice (some ⟨g, 0, none⟩) n c ∧ c ≤ maxLen := by
 rcases h.2 with ⟨_, rfl⟩ | ⟨g, cap, cur, rfl, _, _, _, hm, _⟩
 ·omega
 ·exact ⟨g, cap, rfl, hm⟩
theorem owns_len {w : World} {base : Nat} {e : TypeId} {size : Nat} {v : Value} {n : Nat} {xs : List Value} (h : w.ownsRow base e size v n xs) : n ≤ 9223372036854775807 := by
 rcases h.2 with ⟨_, rfl⟩ | ⟨g, cap, cur, _, _, _, h1, h2, _⟩
 ·omega
 ·unfold maxLen at h2; omega
theorem Sl.of_own' {α : Type} {enc : α → List Value} {size : Nat} (hs : ∀ x, (enc x).length = size) {w : World} {base : Nat} {e : TypeId} {v : Value} {xs : List α}
  (h : w.ownsRow base e size v xs.length (xs.flatMap enc)) : Sl enc size w v xs := Sl.of_own hs h (owns_len h)
theorem run_append_none (P : Program) (w : World) (base : Nat) (t ty e : TypeId) (i : TypeInfo) (size c : Nat) (ht : P.underlying t = some (.slice e)) (hi : P.info? e = some i)
  (v : Value) (n : Nat) (xs : List Value) (hown : w.ownsRow base e size v n xs) :
  (Builtin.append_ #[t, t] ty #[v, .slice none 0 c]).run P w = .ok v w := by
 rcases hown.2 with ⟨rfl, rfl⟩ | ⟨g, cap, cur, rfl, _, _, hnc, _⟩
 ·simp [Builtin.append_, run_underlying ht, sizeOf, typeInfo, hi, Builtin.lenOf, Builtin.firstCells]
 ·simp [Builtin.append_, run_underlying ht, sizeOf, typeInfo, hi, Builtin.lenOf, Builtin.firstCells, hnc, storeCells]
theorem run_append_sl {α : Type} {enc : α → List Value} {P : Program} {w : World} (base : Nat) (t ty e : TypeId) (i : TypeInfo) (z : Value) (size bytes : Nat) (ht : P.underlying t = some (.slice e)) (hi : P.info? e = some i) (hz : i.zero = some z)
  (hsize : i.size = size) (hby : i.bytes = bytes) (hzs : z.cells.size = size) (hsz : 0 < size) (hs : ∀ x, (enc x).length = size)
  (v : Value) (n : Nat) (xs : List Value) (hown : w.ownsRow base e size v n xs) (x : Value) (L : List α) (hx : Sl enc size w x L) (he : ∀ x ∈ L, ∀ u ∈ enc x, u.oneCell' = true)
  (h63 : n + L.length ≤ maxLen) (hbytes : (n + L.length) * bytes ≤ 140737488355328) (hbase : base ≤ w.heap.size) :
  ∃ v' w', (Builtin.append_ #[t, t] ty #[v, x]).run P w = .ok v' w' ∧ w'.ownsRow base e size v' (n + L.length) (xs ++ L.flatMap enc) ∧ w.grownBy w' v.ownBlock := by
 have hx' := hx
 obtain ⟨_, a, cap, rfl, _, hc⟩ := hx
 cases a with
 | none =>
  have hL : L = [] := by
   cases L with
   | nil => rfl
   | cons y L =>
    obtain ⟨b, off, ha, _⟩ := hc 0 y rfl
    cases ha
  subst hL
  exact ⟨v, w, run_append_none P w base t ty e i size cap ht hi v n xs hown, by simpa using hown, rfl, rfl, rfl, Nat.le_refl _, fun _ _ _ => rfl⟩
 | some ad =>
  obtain ⟨v', w', h1, h2, h3, -⟩ := run_append_own (P := P) w base t ty e i z size bytes ht hi hz hsize hby hzs hsz v n xs hown ad L.length cap (L.flatMap enc) (length_flatMap_enc hs L) (hx'.news hs hsz) (by
   intro u hu
   obtain ⟨y, hym, hy⟩ := List.mem_flatMap.1 hu
   exact he y hym u hy) h63 hbytes hbase
  exact ⟨v', w', h1, h2, h3⟩
theorem wp_append_sl {α : Type} {enc : α → List Value} {P : Program} {w : World} {o : Oper} {ac : Act} {K : Act → World → Prop} {Q : Exit → Act → World → Prop} (s xo : Operand) (t : TypeId)
  (ho : o.op = .call { callee := .builtin .append, args := #[s, xo], argTypes := #[t, t] })
  (base : Nat) (e : TypeId) (i : TypeInfo) (z : Value) (size bytes : Nat) (ht : P.underlying t = some (.slice e)) (hi : P.info? e = some i) (hz : i.zero = some z)
  (hsize : i.size = size) (hby : i.bytes = bytes) (hzs : z.cells.size = size) (hsz : 0 < size) (hs : ∀ x, (enc x).length = size)
  (v : Value) (n : Nat) (xs : List Value) (hv : ac.eval s = v) (hown : w.ownsRow base e size v n xs) (x : Value) (hxe : ac.eval xo = x) (L : List α) (hx : Sl enc size w x L) (he : ∀ x ∈ L, ∀ u ∈ enc x, u.oneCell' = true)
  (h63 : n + L.length ≤ maxLen) (hbytes : (n + L.length) * bytes ≤ 140737488355328) (hbase : base ≤ w.heap.size)
  (h : ∀ v' w', w'.ownsRow base e size v' (n + L.length) (xs ++ L.flatMap enc) → w.grownBy w' v.ownBlock → K (ac.put o.dst v') w') : o.wp P ac w K Q := by
 obtain ⟨v', w', hr, h2, h3⟩ := run_append_sl (P := P) (w := w) base t o.type e i z size bytes ht hi hz hsize hby hzs hsz hs v n xs hown x L hx he h63 hbytes hbase
 unfold Oper.wp execOp
 simp only [ho, resolve, invoke, builtin, Sem.run_bind, Sem.run_pure, Result.andThen_ok, List.map_toArray, List.map_cons, List.map_nil, hv, hxe, hr]
 exact h v' w' h2 h3
theorem wpList_append_sl {α : Type} {enc : α → List Value} {P : Program} {w : World} {ops : Array Oper} {rest : List Oper} {o : Oper} {ac : Act} {Q : Exit → Act → World → Prop} (hgd : o.guard = none) (s xo : Operand) (t : TypeId)
  (ho : o.op = .call { callee := .builtin .append, args := #[s, xo], argTypes := #[t, t] })
  (base : Nat) (e : TypeId) (i : TypeInfo) (z : Value) (size bytes : Nat) (ht : P.underlying t = some (.slice e)) (hi : P.info? e = some i) (hz : i.zero = some z)
  (hsize : i.size = size) (hby : i.bytes = bytes) (hzs : z.cells.size = size) (hsz : 0 < size) (hs : ∀ x, (enc x).length = size)
  (v : Value) (n : Nat) (xs : List Value) (hv : ac.eval s = v) (hown : w.ownsRow base e size v n xs) (x : Value) (hxe : ac.eval xo = x) (L : List α) (hx : Sl enc size w x L) (he : ∀ x ∈ L, ∀ u ∈ enc x, u.oneCell' = true)
  (h63 : n + L.length ≤ maxLen) (hbytes : (n + L.length) * bytes ≤ 140737488355328) (hbase : base ≤ w.heap.size)
  (h : ∀ v' w', w'.ownsRow base e size v' (n + L.length) (xs ++ L.flatMap enc) → w.grownBy w' v.ownBlock → wpList P ops Q rest (ac.put o.dst v') w') : wpList P ops Q (o :: rest) ac w :=
 wpList_plain hgd fun _ hK => wp_append_sl s xo t ho base e i z size bytes ht hi hz hsize hby hzs hsz hs v n xs hv hown x hxe L hx he h63 hbytes hbase fun v' w' h1 h2 => hK _ _ (h v' w' h1 h2)
end Go.Proofs.YtmpciohmljpncaaGreatDoor

/- A law for a region that draws its order: an invariant over what is listed, the slots and the world. -/
namespace Go.Proofs.YtmpciohmljpncaaGreatDoor
open Go.ChangeShapes Go.WideShapes Go.ChangeAt Go.RowKit
/-- the frame's slots, as a function -/
def frameOf (n : Nat) (x : Nat → Value) : Array Value := ((List.range n).map x).toArray
def putX (x : Nat → Value) (dst : Option Tmp) (v : Value) : Nat → Value := fun t => if dst = some t then v else x t
theorem frameOf_put (n : Nat) (x : Nat → Value) (ds : List Deferred) (dst : Option Tmp) (v : Value) : (⟨frameOf n x, ds⟩ : Act).put dst v = ⟨frameOf n (putX x dst v), ds⟩ := by
 cases dst with
 | none =>
  have : putX x none v = x := by funext t; simp [putX]
  rw [this]; rfl
 | some d =>
  simp only [Act.put, frameOf, Act.mk.injEq, and_true]
  apply Array.ext_getElem?
  intro i
  rw [Array.getElem?_setIfInBounds]
  simp only [List.getElem?_toArray, List.getElem?_map, List.size_toArray, List.length_map, List.length_range]
  by_cases h : d = i
  ·subst h
   by_cases hd : d < n
   ·simp [hd, putX]
   ·simp [hd]
  ·simp only [h, if_false]
   by_cases hi : i < n
   ·simp [List.getElem?_range hi, h, putX]
   ·simp [Nat.le_of_not_lt hi]
theorem frameOf_self (a : Act) : a = ⟨frameOf a.tmps.size (fun t => a.tmps.getD t undef), a.defers⟩ := by
 obtain ⟨t, d⟩ := a
 simp only [Act.mk.injEq, and_true]
 apply Array.ext_getElem?
 intro i
 simp only [frameOf, List.getElem?_toArray, List.getElem?_map]
 by_cases hi : i < t.size
 ·simp [hi]
 ·simp [Nat.le_of_not_lt hi]
/-- which operations wait for which, in a program that mixes orders -/
def binders (ops : Array Oper) (i : Nat) : List Nat := ((ops[i]?).map (fun o => (o.after.toList.filter (fun e => Region.binds .any e)).map (·.on))).getD []
theorem wpAny_inv {P : Program} {ops : Array Oper} {Q : Exit → Act → World → Prop} {n : Nat} {ds : List Deferred} (J : (Nat → Bool) → (Nat → Value) → World → Prop)
  (hstep : ∀ i o, ops[i]? = some o → ∀ L x w, J L x w → L i = false → (∀ k ∈ binders ops i, L k = true) →
   ∀ K : Act → World → Prop, Hid (∀ v w', J (fun k => k == i || L k) (putX x o.dst v) w' → K ((⟨frameOf n x, ds⟩ : Act).put o.dst v) w') → wpOp P ops Q i K ⟨frameOf n x, ds⟩ w)
  (hend : ∀ L x w, J L x w → (∀ k, k < ops.size → L k = true) → Q .normal ⟨frameOf n x, ds⟩ w)
  (hord : ∀ listed : Array Bool, listed.size = ops.size → Region.ready .any ops listed = [] → ∀ k, k < ops.size → listed.getD k true = true) :
  ∀ fuel (listed : Array Bool) x w, listed.size = ops.size → (List.range ops.size).countP (fun k => !listed.getD k true) ≤ fuel → J (fun k => listed.getD k true) x w → wpAny P .any ops Q fuel listed ⟨frameOf n x, ds⟩ w := by
 intro fuel
 induction fuel with
 | zero =>
  intro listed x w hsz hf hJ
  have h0 : ∀ k, k < ops.size → listed.getD k true = true := by
   intro k hk
   have := List.countP_eq_zero.1 (Nat.le_zero.1 hf) k (List.mem_range.2 hk)
   simpa using this
  refine ⟨?_, hend _ x w hJ h0⟩
  unfold Region.ready
  rw [List.filter_eq_nil_iff]
  intro k hk
  simp [h0 k (List.mem_range.1 hk)]
 | succ fuel ih =>
  intro listed x w hsz hf hJ
  refine ⟨fun hr => hend _ x w hJ (hord listed hsz hr), ?_⟩
  intro i hi
  obtain ⟨h1, o, ho, hall⟩ := mem_ready.1 hi
  have hil : i < ops.size := (Array.getElem?_eq_some_iff.1 ho).1
  refine hstep i o ho _ x w hJ h1 ?_ _ ?_
  ·intro k hk
   simp only [binders, ho, Option.map_some, Option.getD_some, List.mem_map, List.mem_filter] at hk
   obtain ⟨e, ⟨he, hb⟩, rfl⟩ := hk
   have := hall e (by simpa using he) hb
   rcases Nat.lt_or_ge e.on listed.size with h' | h'
   ·simp [h'] at this ⊢; exact this
   ·simp [Nat.not_lt.2 h'] at this
  ·intro v w' hJ'
   rw [frameOf_put]
   refine ih (listed.setIfInBounds i true) _ w' (by simp [hsz]) ?_ ?_
   ·have : (List.range ops.size).countP (fun k => !(listed.setIfInBounds i true).getD k true) + 1 ≤ (List.range ops.size).countP (fun k => !listed.getD k true) := by
     clear hall hJ hJ' ih hf hi
     generalize ops.size = m at *
     have key : ∀ l : List Nat, l.Nodup → i ∈ l → l.countP (fun k => !(listed.setIfInBounds i true).getD k true) + 1 ≤ l.countP (fun k => !listed.getD k true) := by
      intro l hn hmem
      have hle : ∀ l' : List Nat, i ∉ l' → l'.countP (fun k => !(listed.setIfInBounds i true).getD k true) = l'.countP (fun k => !listed.getD k true) := by
       intro l' hni
       apply List.countP_congr
       intro k hk
       have hki : i ≠ k := fun e => hni (e ▸ hk)
       rw [getD_set_ne true hki]
      induction l with
      | nil => simp at hmem
      | cons y ys ih2 =>
       rw [List.countP_cons, List.countP_cons]
       rcases List.mem_cons.1 hmem with rfl | hm
       ·rw [hle ys (List.nodup_cons.1 hn).1]
        have e1 : (listed.setIfInBounds i true).getD i true = true := by simp [Array.getD_eq_getD_getElem?, hsz, hil]
        rw [e1, h1]
        simp
       ·have hyi : i ≠ y := fun e => (List.nodup_cons.1 hn).1 (e ▸ hm)
        have := ih2 (List.nodup_cons.1 hn).2 hm
        rw [getD_set_ne true hyi]
        omega
     exact key _ List.nodup_range (List.mem_range.2 hil)
    omega
   ·have : (fun k => (listed.setIfInBounds i true).getD k true) = (fun k => k == i || listed.getD k true) := by
     funext k
     by_cases hk : i = k
     ·subst hk
      simp [Array.getD_eq_getD_getElem?, hsz, hil]
     ·rw [getD_set_ne true hk]
      have : (k == i) = false := by simpa using Ne.symm hk
      rw [this]
      rfl
    rw [this]
    exact hJ'
/-- each operation waits for earlier ones alone -/
def fwdB (ops : Array Oper) : Bool := (List.range ops.size).all fun i => (binders ops i).all fun k => decide (k < i)
theorem ord_of_fwd {ops : Array Oper} (h : fwdB ops = true) (listed : Array Bool) (hsz : listed.size = ops.size) (hr : Region.ready .any ops listed = []) : ∀ k, k < ops.size → listed.getD k true = true := by
 intro k
 induction k using Nat.strongRecOn with
 | _ k ih =>
  intro hk
  cases hl : listed.getD k true with
  | true => rfl
  | false =>
   exfalso
   obtain ⟨o, ho⟩ : ∃ o, ops[k]? = some o := ⟨ops[k], Array.getElem?_eq_getElem hk⟩
   have : k ∈ Region.ready .any ops listed := by
    refine mem_ready.2 ⟨hl, o, ho, fun e he hb => ?_⟩
    have hm : e.on ∈ binders ops k := by
     simp only [binders, ho, Option.map_some, Option.getD_some, List.mem_map, List.mem_filter]
     exact ⟨e, ⟨by simpa using he, hb⟩, rfl⟩
    have hlt : e.on < k := by
     have h1 := List.all_eq_true.1 h k (List.mem_range.2 hk)
     have h2 := List.all_eq_true.1 h1 e.on hm
     simpa using h2
    have := ih e.on hlt (by omega)
    have h' : e.on < listed.size := by omega
    simp [h'] at this ⊢
    exact this
   rw [hr] at this
   cases this
theorem wp_region_inv {P : Program} {id : Nat} {ops : Array Oper} {Q : Exit → Act → World → Prop} {a : Act} {w : World} (n : Nat) (J : (Nat → Bool) → (Nat → Value) → World → Prop)
  (hm : P.follows .mixedOrders = true) (hn : a.tmps.size = n) (hf : fwdB ops = true)
  (h0 : J (fun k => decide (ops.size ≤ k)) (fun t => a.tmps.getD t undef) w.drew)
  (hstep : ∀ i o, ops[i]? = some o → ∀ L x w, J L x w → L i = false → (∀ k ∈ binders ops i, L k = true) →
   ∀ K : Act → World → Prop, Hid (∀ v w', J (fun k => k == i || L k) (putX x o.dst v) w' → K ((⟨frameOf n x, a.defers⟩ : Act).put o.dst v) w') → wpOp P ops Q i K ⟨frameOf n x, a.defers⟩ w)
  (hend : ∀ L x w, J L x w → (∀ k, k < ops.size → L k = true) → Q .normal ⟨frameOf n x, a.defers⟩ w) : (Code.region id ops true).wp P Q a w := by
 refine wp_region_any hm ?_
 have ha := frameOf_self a
 rw [hn] at ha
 have he : (fun k => (Array.replicate ops.size false).getD k true) = (fun k => decide (ops.size ≤ k)) := by
  funext k
  by_cases hk : k < ops.size
  ·have : ¬ ops.size ≤ k := by omega
   simp [hk, this]
  ·have : ops.size ≤ k := by omega
   simp [hk, this]
 have := wpAny_inv (P := P) (Q := Q) (ops := ops) (n := n) (ds := a.defers) J hstep hend (ord_of_fwd hf) ops.size (Array.replicate ops.size false) (fun t => a.tmps.getD t undef) w.drew (by simp) (by
  refine Nat.le_trans List.countP_le_length ?_
  simp) (by rw [he]; exact h0)
 rw [← ha] at this
 exact this
def dstB (ops : Array Oper) (k : Nat) : Option Tmp := (ops[k]?).bind (·.dst)
def noDst (ops : Array Oper) (t : Nat) : Bool := (List.range ops.size).all fun k => dstB ops k != some t
def sepB (ops : Array Oper) : Bool := (List.range ops.size).all fun i => (List.range ops.size).all fun k => i == k || (dstB ops i).isNone || dstB ops i != dstB ops k
end Go.Proofs.YtmpciohmljpncaaGreatDoor

/- A law for a region that draws its order, where the operations that turn the memory wait for one another. -/
namespace Go.Proofs.YtmpciohmljpncaaGreatDoor
open Go.ChangeShapes Go.WideShapes Go.ChangeAt Go.RowKit
/-- what an operation waits for, straight or through others (so many links) -/
def ancs (ops : Array Oper) : Nat → Nat → List Nat
 | 0, _ => []
 | f + 1, i => (binders ops i).flatMap fun k => k :: ancs ops f k
def ancB (ops : Array Oper) (k i : Nat) : Bool := (ancs ops ops.size i).contains k
/-- 'mem' is a chain -/
def chainB (ops : Array Oper) (mem : List Nat) : Bool := (List.range mem.length).all fun q => decide (mem.getD q 0 < ops.size) && (List.range q).all fun r => ancB ops (mem.getD r 0) (mem.getD q 0)
theorem anc_listed {ops : Array Oper} {L : Nat → Bool} (hL : ∀ j, j < ops.size → L j = true → ∀ k ∈ binders ops j, L k = true) (hf : fwdB ops = true) :
  ∀ f i k, i < ops.size → (∀ k ∈ binders ops i, L k = true) → k ∈ ancs ops f i → L k = true := by
 intro f
 induction f with
 | zero => intro i k _ _ h; cases h
 | succ f ih =>
  intro i k hi hb h
  unfold ancs at h
  obtain ⟨j, hj, hk⟩ := List.mem_flatMap.1 h
  have hlt : j < i := by
   have h1 := List.all_eq_true.1 hf i (List.mem_range.2 hi)
   have h2 := List.all_eq_true.1 h1 j hj
   simpa using h2
  rcases List.mem_cons.1 hk with rfl | hk
  ·exact hb _ hj
  ·exact ih j k (by omega) (hL j (by omega) (hb j hj)) hk
/-- what is known of the phase in which operation i comes up, if p of the memory's operations have been -/
def PhOk (ops : Array Oper) (mem : List Nat) (i p : Nat) : Prop := ∀ q, q < mem.length → (ancB ops (mem.getD q 0) i = true → q < p) ∧ (ancB ops i (mem.getD q 0) = true → p ≤ q)
/-- a slot of which a plain law is known when operation i comes up -/
def knowsP (n : Nat) (ops : Array Oper) (mem : List Nat) (i t : Nat) : Bool := (decide (t < n) && noDst ops t) || (ancs ops ops.size i).any fun k => dstB ops k == some t && !mem.contains k
theorem wp_region_ph {P : Program} {id : Nat} {ops : Array Oper} {Q : Exit → Act → World → Prop} {a : Act} {w : World} (n : Nat) (mem : List Nat) (Φ : List Value → World → Prop) (I : Nat → Value → Prop)
  (hm : P.follows .mixedOrders = true) (hn : a.tmps.size = n) (hf : fwdB ops = true) (hs : sepB ops = true) (hc : chainB ops mem = true)
  (h0 : Φ [] w.drew) (hI : ∀ t, t < n → noDst ops t = true → I t (a.tmps.getD t undef))
  (hplain : ∀ i o, ops[i]? = some o → mem.contains i = false → ∀ vs x w', PhOk ops mem i vs.length → Φ vs w' → (∀ q d, q < vs.length → dstB ops (mem.getD q 0) = some d → x d = vs.getD q undef) → (∀ t, knowsP n ops mem i t = true → I t (x t)) →
   ∀ K : Act → World → Prop, Hid (∀ v, (∀ d, o.dst = some d → I d v) → K ((⟨frameOf n x, a.defers⟩ : Act).put o.dst v) w') → wpOp P ops Q i K ⟨frameOf n x, a.defers⟩ w')
  (hmem : ∀ i o, ops[i]? = some o → mem.contains i = true → ∀ vs x w', mem.getD vs.length 0 = i → vs.length < mem.length → Φ vs w' → (∀ q d, q < vs.length → dstB ops (mem.getD q 0) = some d → x d = vs.getD q undef) → (∀ t, knowsP n ops mem i t = true → I t (x t)) →
   ∀ K : Act → World → Prop, Hid (∀ v w'', Φ (vs ++ [v]) w'' → K ((⟨frameOf n x, a.defers⟩ : Act).put o.dst v) w'') → wpOp P ops Q i K ⟨frameOf n x, a.defers⟩ w')
  (hend : ∀ vs x w', vs.length = mem.length → Φ vs w' → (∀ q d, q < vs.length → dstB ops (mem.getD q 0) = some d → x d = vs.getD q undef) → (∀ t, t < n → (mem.any fun k => dstB ops k == some t) = false → I t (x t)) → Q .normal ⟨frameOf n x, a.defers⟩ w') : (Code.region id ops true).wp P Q a w := by
 have hcm : ∀ q, q < mem.length → mem.getD q 0 < ops.size ∧ ∀ r, r < q → ancB ops (mem.getD r 0) (mem.getD q 0) = true := by
  intro q hq
  have h1 := List.all_eq_true.1 hc q (List.mem_range.2 hq)
  rw [Bool.and_eq_true] at h1
  exact ⟨by simpa using h1.1, fun r hr => List.all_eq_true.1 h1.2 r (List.mem_range.2 hr)⟩
 have hirr : ∀ f i, i < ops.size → ∀ k ∈ ancs ops f i, k < i := by
  intro f
  induction f with
  | zero => intro i _ k h; cases h
  | succ f ih =>
   intro i hi k h
   unfold ancs at h
   obtain ⟨j, hj, hk⟩ := List.mem_flatMap.1 h
   have hlt : j < i := by
    have h1 := List.all_eq_true.1 hf i (List.mem_range.2 hi)
    have h2 := List.all_eq_true.1 h1 j hj
    simpa using h2
   rcases List.mem_cons.1 hk with rfl | hk
   ·exact hlt
   ·have := ih j (by omega) k hk
    omega
 have hmlt : ∀ r q, r < q → q < mem.length → mem.getD r 0 < mem.getD q 0 := by
  intro r q hr hq
  have := (hcm q hq).2 r hr
  unfold ancB at this
  exact hirr _ _ (hcm q hq).1 _ (by simpa using this)
 have hsep : ∀ i k d, i < ops.size → k < ops.size → dstB ops i = some d → dstB ops k = some d → i = k := by
  intro i k d hi hk h1 h2
  have h3 := List.all_eq_true.1 (List.all_eq_true.1 hs i (List.mem_range.2 hi)) k (List.mem_range.2 hk)
  rw [h1, h2] at h3
  simpa using h3
 refine wp_region_inv n (fun L x w' => (∀ j, j < ops.size → L j = true → ∀ k ∈ binders ops j, L k = true) ∧ (∀ t, t < n → noDst ops t = true → I t (x t)) ∧ (∀ k d, k < ops.size → dstB ops k = some d → mem.contains k = false → L k = true → I d (x d)) ∧
  ∃ vs : List Value, vs.length ≤ mem.length ∧ Φ vs w' ∧ (∀ q, q < mem.length → (L (mem.getD q 0) = true ↔ q < vs.length)) ∧ ∀ q d, q < vs.length → dstB ops (mem.getD q 0) = some d → x d = vs.getD q undef) hm hn hf ?_ ?_ ?_
 ·refine ⟨fun j hj hL => ?_, hI, fun k d hk _ _ hL => ?_, [], by simp, h0, fun q hq => ?_, fun q d hq => by simp at hq⟩
  ·simp at hL; omega
  ·simp at hL; omega
  ·have := (hcm q hq).1
   have h2 : ¬ ops.size ≤ mem.getD q 0 := by omega
   show decide (ops.size ≤ mem.getD q 0) = true ↔ q < ([] : List Value).length
   rw [decide_eq_true_iff]
   exact ⟨fun h => absurd h h2, fun h => absurd h (Nat.not_lt_zero _)⟩
 ·intro i o ho L x w' ⟨hdown, hfree, hdone, vs, hvl, hΦ, hiff, hxs⟩ hLi hLb K hK
  have hi : i < ops.size := (Array.getElem?_eq_some_iff.1 ho).1
  have hanc : ∀ k, k ∈ ancs ops ops.size i → L k = true := fun k hk => anc_listed hdown hf _ i k hi hLb hk
  have hknow : ∀ t, knowsP n ops mem i t = true → I t (x t) := by
   intro t ht
   unfold knowsP at ht
   rw [Bool.or_eq_true] at ht
   rcases ht with ht | ht
   ·rw [Bool.and_eq_true] at ht
    exact hfree t (by simpa using ht.1) ht.2
   ·obtain ⟨k, hk, hkd⟩ := List.any_eq_true.1 ht
    rw [Bool.and_eq_true] at hkd
    have hkd' : dstB ops k = some t := by simpa using hkd.1
    have hk2 : k < ops.size := by have := hirr _ _ hi k hk; omega
    exact hdone k t hk2 hkd' (by simpa using hkd.2) (hanc k hk)
  have hdown' : ∀ j, j < ops.size → (j == i || L j) = true → ∀ k ∈ binders ops j, (k == i || L k) = true := by
   intro j hj hjl k hk
   by_cases hji : j = i
   ·subst hji
    rw [hLb k hk]; simp
   ·have : L j = true := by
     have hb : (j == i) = false := by simpa using hji
     simpa [hb] using hjl
    rw [hdown j hj this k hk]; simp
  have hfree' : ∀ v, ∀ t, t < n → noDst ops t = true → I t (putX x o.dst v t) := by
   intro v t ht hno
   have hne : o.dst ≠ some t := by
    intro e
    have h1 := List.all_eq_true.1 hno i (List.mem_range.2 hi)
    have h2 : dstB ops i = some t := by unfold dstB; rw [ho]; exact e
    rw [h2] at h1
    simp at h1
   simp only [putX, hne, if_false]
   exact hfree t ht hno
  have hxs' : ∀ v, ∀ q d, q < vs.length → dstB ops (mem.getD q 0) = some d → putX x o.dst v d = vs.getD q undef := by
   intro v q d hq hd
   have hqm : q < mem.length := by omega
   have hne : o.dst ≠ some d := by
    intro e
    have h2 : dstB ops i = some d := by unfold dstB; rw [ho]; exact e
    have := hsep i _ d hi (hcm q hqm).1 h2 hd
    rw [this, (hiff q hqm).2 hq] at hLi
    cases hLi
   simp only [putX, hne, if_false]
   exact hxs q d hq hd
  cases hmi : mem.contains i with
  | false =>
   refine hplain i o ho hmi vs x w' ?_ hΦ hxs hknow K ?_
   ·intro q hq
    refine ⟨fun h => (hiff q hq).1 (hanc _ (by unfold ancB at h; simpa using h)), fun h => ?_⟩
    rcases Nat.lt_or_ge q vs.length with hlt | hge
    ·exfalso
     have hL := (hiff q hq).2 hlt
     have := anc_listed hdown hf ops.size (mem.getD q 0) i (hcm q hq).1 (hdown _ (hcm q hq).1 hL) (by unfold ancB at h; simpa using h)
     rw [this] at hLi
     cases hLi
    ·exact hge
   ·intro v hv
    refine hK.out v w' ⟨hdown', hfree' v, ?_, vs, hvl, hΦ, ?_, hxs' v⟩
    ·intro k d hk hkd hkm hL
     by_cases hki : k = i
     ·subst hki
      have : o.dst = some d := by unfold dstB at hkd; rw [ho] at hkd; exact hkd
      simp only [putX, this, if_true]
      exact hv d this
     ·have hLk : L k = true := by
       have : (k == i) = false := by simpa using hki
       simpa [this] using hL
      have hne : o.dst ≠ some d := by
       intro e
       have h2 : dstB ops i = some d := by unfold dstB; rw [ho]; exact e
       exact hki (hsep i k d hi hk h2 hkd).symm
      simp only [putX, hne, if_false]
      exact hdone k d hk hkd hkm hLk
    ·intro q hq
     have hne : (mem.getD q 0 == i) = false := by
      rw [beq_eq_false_iff_ne]
      intro e
      have : i ∈ mem := by rw [← e, List.getD_eq_getElem?_getD, List.getElem?_eq_getElem hq]; exact List.getElem_mem hq
      rw [List.contains_iff_mem.2 this] at hmi
      cases hmi
     show (mem.getD q 0 == i || L (mem.getD q 0)) = true ↔ _
     rw [hne]
     exact hiff q hq
  | true =>
   obtain ⟨q, hq, hqi⟩ : ∃ q, q < mem.length ∧ mem.getD q 0 = i := by
    obtain ⟨q, hq, e⟩ := List.getElem_of_mem (List.contains_iff_mem.1 hmi)
    exact ⟨q, hq, by rw [List.getD_eq_getElem?_getD, List.getElem?_eq_getElem hq]; exact e⟩
   have hq1 : ¬ q < vs.length := fun h => by
    have := (hiff q hq).2 h
    rw [hqi, hLi] at this
    cases this
   have hq2 : q ≤ vs.length := by
    rcases Nat.eq_zero_or_pos q with h | h
    ·omega
    ·have ha := (hcm q hq).2 (q - 1) (by omega)
     rw [hqi] at ha
     have := (hiff (q - 1) (by omega)).1 (hanc _ (by unfold ancB at ha; simpa using ha))
     omega
   obtain rfl : q = vs.length := by omega
   refine hmem i o ho hmi vs x w' hqi hq hΦ hxs hknow K ?_
   intro v w'' hΦ2
   refine hK.out v w'' ⟨hdown', hfree' v, ?_, vs ++ [v], by simp; omega, hΦ2, ?_, ?_⟩
   ·intro k d hk hkd hkm hL
    have hki : k ≠ i := fun e => by rw [e, hmi] at hkm; cases hkm
    have hLk : L k = true := by
     have : (k == i) = false := by simpa using hki
     simpa [this] using hL
    have hne : o.dst ≠ some d := by
     intro e
     have h2 : dstB ops i = some d := by unfold dstB; rw [ho]; exact e
     exact hki (hsep i k d hi hk h2 hkd).symm
    simp only [putX, hne, if_false]
    exact hdone k d hk hkd hkm hLk
   ·intro r hr
    show (mem.getD r 0 == i || L (mem.getD r 0)) = true ↔ _
    by_cases hri : r = vs.length
    ·subst hri
     rw [hqi]
     simp
    ·have hne : (mem.getD r 0 == i) = false := by
      rw [beq_eq_false_iff_ne]
      intro e
      rcases Nat.lt_or_gt_of_ne hri with h | h
      ·have := hmlt r vs.length h hq
       omega
      ·have := hmlt vs.length r h hr
       omega
     rw [hne, Bool.false_or, hiff r hr]
     simp
     omega
   ·intro r d hr hd
    by_cases hri : r = vs.length
    ·subst hri
     rw [hqi] at hd
     have : o.dst = some d := by unfold dstB at hd; rw [ho] at hd; exact hd
     simp [putX, this]
    ·have hr' : r < vs.length := by simp at hr; omega
     rw [hxs' v r d hr' hd]
     rw [List.getD_eq_getElem?_getD, List.getD_eq_getElem?_getD, List.getElem?_append_left hr']
 ·intro L x w' ⟨hdown, hfree, hdone, vs, hvl, hΦ, hiff, hxs⟩ hL
  have hlen : vs.length = mem.length := by
   rcases Nat.lt_or_ge vs.length mem.length with h | h
   ·exfalso
    have := (hiff vs.length h).1 (hL _ (hcm _ h).1)
    omega
   ·omega
  refine hend vs x w' hlen hΦ hxs fun t ht hno => ?_
  cases hfr : noDst ops t with
  | true => exact hfree t ht hfr
  | false =>
   unfold noDst at hfr
   obtain ⟨k, hk, hkd⟩ := List.all_eq_false.1 hfr
   have hkd' : dstB ops k = some t := by simpa using hkd
   refine hdone k t (List.mem_range.1 hk) hkd' ?_ (hL k (List.mem_range.1 hk))
   cases hkm : mem.contains k with
   | false => rfl
   | true =>
    have := List.any_eq_false.1 hno k (List.contains_iff_mem.1 hkm)
    simp [hkd'] at this
/-- .. and others may lay blocks at any time: each slot has a law that stands under R; the phases' laws stand whatever blocks come -/
theorem wp_region_rx {P : Program} {id : Nat} {ops : Array Oper} {Q : Exit → Act → World → Prop} {a : Act} {w : World} (n : Nat) (mem : List Nat) (Φ : List Value → World → Prop) (I : Nat → World → Value → Prop) (R : World → World → Prop)
  (hm : P.follows .mixedOrders = true) (hn : a.tmps.size = n) (hf : fwdB ops = true) (hs : sepB ops = true) (hc : chainB ops mem = true)
  (hRE : ∀ w' w'', Ext w' w'' → R w' w'') (hIR : ∀ t w' w'' v, R w' w'' → I t w' v → I t w'' v) (hΦE : ∀ vs w' w'', Φ vs w' → Ext w' w'' → Φ vs w'')
  (h0 : Φ [] w.drew) (hI : ∀ t, t < n → noDst ops t = true → I t w (a.tmps.getD t undef))
  (hplain : ∀ i o, ops[i]? = some o → mem.contains i = false → ∀ vs x w', PhOk ops mem i vs.length → Φ vs w' → (∀ q d, q < vs.length → dstB ops (mem.getD q 0) = some d → x d = vs.getD q undef) → (∀ t, knowsP n ops mem i t = true → I t w' (x t)) →
   ∀ K : Act → World → Prop, Hid (∀ v w'', Ext w' w'' → (∀ d, o.dst = some d → I d w'' v) → K ((⟨frameOf n x, a.defers⟩ : Act).put o.dst v) w'') → wpOp P ops Q i K ⟨frameOf n x, a.defers⟩ w')
  (hmem : ∀ i o, ops[i]? = some o → mem.contains i = true → ∀ vs x w', mem.getD vs.length 0 = i → vs.length < mem.length → Φ vs w' → (∀ q d, q < vs.length → dstB ops (mem.getD q 0) = some d → x d = vs.getD q undef) → (∀ t, knowsP n ops mem i t = true → I t w' (x t)) →
   ∀ K : Act → World → Prop, Hid (∀ v w'', Φ (vs ++ [v]) w'' → R w' w'' → K ((⟨frameOf n x, a.defers⟩ : Act).put o.dst v) w'') → wpOp P ops Q i K ⟨frameOf n x, a.defers⟩ w')
  (hend : ∀ vs x w', vs.length = mem.length → Φ vs w' → (∀ q d, q < vs.length → dstB ops (mem.getD q 0) = some d → x d = vs.getD q undef) → (∀ t, t < n → (mem.any fun k => dstB ops k == some t) = false → I t w' (x t)) → Q .normal ⟨frameOf n x, a.defers⟩ w') : (Code.region id ops true).wp P Q a w := by
 have hcm : ∀ q, q < mem.length → mem.getD q 0 < ops.size ∧ ∀ r, r < q → ancB ops (mem.getD r 0) (mem.getD q 0) = true := by
  intro q hq
  have h1 := List.all_eq_true.1 hc q (List.mem_range.2 hq)
  rw [Bool.and_eq_true] at h1
  exact ⟨by simpa using h1.1, fun r hr => List.all_eq_true.1 h1.2 r (List.mem_range.2 hr)⟩
 have hirr : ∀ f i, i < ops.size → ∀ k ∈ ancs ops f i, k < i := by
  intro f
  induction f with
  | zero => intro i _ k h; cases h
  | succ f ih =>
   intro i hi k h
   unfold ancs at h
   obtain ⟨j, hj, hk⟩ := List.mem_flatMap.1 h
   have hlt : j < i := by
    have h1 := List.all_eq_true.1 hf i (List.mem_range.2 hi)
    have h2 := List.all_eq_true.1 h1 j hj
    simpa using h2
   rcases List.mem_cons.1 hk with rfl | hk
   ·exact hlt
   ·have := ih j (by omega) k hk
    omega
 have hmlt : ∀ r q, r < q → q < mem.length → mem.getD r 0 < mem.getD q 0 := by
  intro r q hr hq
  have := (hcm q hq).2 r hr
  unfold ancB at this
  exact hirr _ _ (hcm q hq).1 _ (by simpa using this)
 have hsep : ∀ i k d, i < ops.size → k < ops.size → dstB ops i = some d → dstB ops k = some d → i = k := by
  intro i k d hi hk h1 h2
  have h3 := List.all_eq_true.1 (List.all_eq_true.1 hs i (List.mem_range.2 hi)) k (List.mem_range.2 hk)
  rw [h1, h2] at h3
  simpa using h3
 refine wp_region_inv n (fun L x w' => (∀ j, j < ops.size → L j = true → ∀ k ∈ binders ops j, L k = true) ∧ (∀ t, t < n → noDst ops t = true → I t w' (x t)) ∧ (∀ k d, k < ops.size → dstB ops k = some d → mem.contains k = false → L k = true → I d w' (x d)) ∧
  ∃ vs : List Value, vs.length ≤ mem.length ∧ Φ vs w' ∧ (∀ q, q < mem.length → (L (mem.getD q 0) = true ↔ q < vs.length)) ∧ ∀ q d, q < vs.length → dstB ops (mem.getD q 0) = some d → x d = vs.getD q undef) hm hn hf ?_ ?_ ?_
 ·refine ⟨fun j hj hL => ?_, fun t ht hno => hIR t _ _ _ (hRE _ _ (Below.refl _ w).drew) (hI t ht hno), fun k d hk _ _ hL => ?_, [], by simp, h0, fun q hq => ?_, fun q d hq => by simp at hq⟩
  ·simp at hL; omega
  ·simp at hL; omega
  ·have := (hcm q hq).1
   have h2 : ¬ ops.size ≤ mem.getD q 0 := by omega
   show decide (ops.size ≤ mem.getD q 0) = true ↔ q < ([] : List Value).length
   rw [decide_eq_true_iff]
   exact ⟨fun h => absurd h h2, fun h => absurd h (Nat.not_lt_zero _)⟩
 ·intro i o ho L x w' ⟨hdown, hfree, hdone, vs, hvl, hΦ, hiff, hxs⟩ hLi hLb K hK
  have hi : i < ops.size := (Array.getElem?_eq_some_iff.1 ho).1
  have hanc : ∀ k, k ∈ ancs ops ops.size i → L k = true := fun k hk => anc_listed hdown hf _ i k hi hLb hk
  have hknow : ∀ t, knowsP n ops mem i t = true → I t w' (x t) := by
   intro t ht
   unfold knowsP at ht
   rw [Bool.or_eq_true] at ht
   rcases ht with ht | ht
   ·rw [Bool.and_eq_true] at ht
    exact hfree t (by simpa using ht.1) ht.2
   ·obtain ⟨k, hk, hkd⟩ := List.any_eq_true.1 ht
    rw [Bool.and_eq_true] at hkd
    have hkd' : dstB ops k = some t := by simpa using hkd.1
    have hk2 : k < ops.size := by have := hirr _ _ hi k hk; omega
    exact hdone k t hk2 hkd' (by simpa using hkd.2) (hanc k hk)
  have hdown' : ∀ j, j < ops.size → (j == i || L j) = true → ∀ k ∈ binders ops j, (k == i || L k) = true := by
   intro j hj hjl k hk
   by_cases hji : j = i
   ·subst hji
    rw [hLb k hk]; simp
   ·have : L j = true := by
     have hb : (j == i) = false := by simpa using hji
     simpa [hb] using hjl
    rw [hdown j hj this k hk]; simp
  have hfree' : ∀ v w'', R w' w'' → ∀ t, t < n → noDst ops t = true → I t w'' (putX x o.dst v t) := by
   intro v w'' hR t ht hno
   have hne : o.dst ≠ some t := by
    intro e
    have h1 := List.all_eq_true.1 hno i (List.mem_range.2 hi)
    have h2 : dstB ops i = some t := by unfold dstB; rw [ho]; exact e
    rw [h2] at h1
    simp at h1
   simp only [putX, hne, if_false]
   exact hIR t w' w'' _ hR (hfree t ht hno)
  have hxs' : ∀ v, ∀ q d, q < vs.length → dstB ops (mem.getD q 0) = some d → putX x o.dst v d = vs.getD q undef := by
   intro v q d hq hd
   have hqm : q < mem.length := by omega
   have hne : o.dst ≠ some d := by
    intro e
    have h2 : dstB ops i = some d := by unfold dstB; rw [ho]; exact e
    have := hsep i _ d hi (hcm q hqm).1 h2 hd
    rw [this, (hiff q hqm).2 hq] at hLi
    cases hLi
   simp only [putX, hne, if_false]
   exact hxs q d hq hd
  cases hmi : mem.contains i with
  | false =>
   refine hplain i o ho hmi vs x w' ?_ hΦ hxs hknow K ?_
   ·intro q hq
    refine ⟨fun h => (hiff q hq).1 (hanc _ (by unfold ancB at h; simpa using h)), fun h => ?_⟩
    rcases Nat.lt_or_ge q vs.length with hlt | hge
    ·exfalso
     have hL := (hiff q hq).2 hlt
     have := anc_listed hdown hf ops.size (mem.getD q 0) i (hcm q hq).1 (hdown _ (hcm q hq).1 hL) (by unfold ancB at h; simpa using h)
     rw [this] at hLi
     cases hLi
    ·exact hge
   ·intro v w'' hE hv
    have hR := hRE w' w'' hE
    refine hK.out v w'' ⟨hdown', hfree' v w'' hR, ?_, vs, hvl, hΦE vs w' w'' hΦ hE, ?_, hxs' v⟩
    ·intro k d hk hkd hkm hL
     by_cases hki : k = i
     ·subst hki
      have : o.dst = some d := by unfold dstB at hkd; rw [ho] at hkd; exact hkd
      simp only [putX, this, if_true]
      exact hv d this
     ·have hLk : L k = true := by
       have : (k == i) = false := by simpa using hki
       simpa [this] using hL
      have hne : o.dst ≠ some d := by
       intro e
       have h2 : dstB ops i = some d := by unfold dstB; rw [ho]; exact e
       exact hki (hsep i k d hi hk h2 hkd).symm
      simp only [putX, hne, if_false]
      exact hIR d w' w'' _ hR (hdone k d hk hkd hkm hLk)
    ·intro q hq
     have hne : (mem.getD q 0 == i) = false := by
      rw [beq_eq_false_iff_ne]
      intro e
      have : i ∈ mem := by rw [← e, List.getD_eq_getElem?_getD, List.getElem?_eq_getElem hq]; exact List.getElem_mem hq
      rw [List.contains_iff_mem.2 this] at hmi
      cases hmi
     show (mem.getD q 0 == i || L (mem.getD q 0)) = true ↔ _
     rw [hne]
     exact hiff q hq
  | true =>
   obtain ⟨q, hq, hqi⟩ : ∃ q, q < mem.length ∧ mem.getD q 0 = i := by
    obtain ⟨q, hq, e⟩ := List.getElem_of_mem (List.contains_iff_mem.1 hmi)
    exact ⟨q, hq, by rw [List.getD_eq_getElem?_getD, List.getElem?_eq_getElem hq]; exact e⟩
   have hq1 : ¬ q < vs.length := fun h => by
    have := (hiff q hq).2 h
    rw [hqi, hLi] at this
    cases this
   have hq2 : q ≤ vs.length := by
    rcases Nat.eq_zero_or_pos q with h | h
    ·omega
    ·have ha := (hcm q hq).2 (q - 1) (by omega)
     rw [hqi] at ha
     have := (hiff (q - 1) (by omega)).1 (hanc _ (by unfold ancB at ha; simpa using ha))
     omega
   obtain rfl : q = vs.length := by omega
   refine hmem i o ho hmi vs x w' hqi hq hΦ hxs hknow K ?_
   intro v w'' hΦ2 hR
   refine hK.out v w'' ⟨hdown', hfree' v w'' hR, ?_, vs ++ [v], by simp; omega, hΦ2, ?_, ?_⟩
   ·intro k d hk hkd hkm hL
    have hki : k ≠ i := fun e => by rw [e, hmi] at hkm; cases hkm
    have hLk : L k = true := by
     have : (k == i) = false := by simpa using hki
     simpa [this] using hL
    have hne : o.dst ≠ some d := by
     intro e
     have h2 : dstB ops i = some d := by unfold dstB; rw [ho]; exact e
     exact hki (hsep i k d hi hk h2 hkd).symm
    simp only [putX, hne, if_false]
    exact hIR d w' w'' _ hR (hdone k d hk hkd hkm hLk)
   ·intro r hr
    show (mem.getD r 0 == i || L (mem.getD r 0)) = true ↔ _
    by_cases hri : r = vs.length
    ·subst hri
     rw [hqi]
     simp
    ·have hne : (mem.getD r 0 == i) = false := by
      rw [beq_eq_false_iff_ne]
      intro e
      rcases Nat.lt_or_gt_of_ne hri with h | h
      ·have := hmlt r vs.length h hq
       omega
      ·have := hmlt vs.length r h hr
       omega
     rw [hne, Bool.false_or, hiff r hr]
     simp
     omega
   ·intro r d hr hd
    by_cases hri : r = vs.length
    ·subst hri
     rw [hqi] at hd
     have : o.dst = some d := by unfold dstB at hd; rw [ho] at hd; exact hd
     simp [putX, this]
    ·have hr' : r < vs.length := by simp at hr; omega
     rw [hxs' v r d hr' hd]
     rw [List.getD_eq_getElem?_getD, List.getD_eq_getElem?_getD, List.getElem?_append_left hr']
 ·intro L x w' ⟨hdown, hfree, hdone, vs, hvl, hΦ, hiff, hxs⟩ hL
  have hlen : vs.length = mem.length := by
   rcases Nat.lt_or_ge vs.length mem.length with h | h
   ·exfalso
    have := (hiff vs.length h).1 (hL _ (hcm _ h).1)
    omega
   ·omega
  refine hend vs x w' hlen hΦ hxs fun t ht hno => ?_
  cases hfr : noDst ops t with
  | true => exact hfree t ht hfr
  | false =>
   unfold noDst at hfr
   obtain ⟨k, hk, hkd⟩ := List.all_eq_false.1 hfr
   have hkd' : dstB ops k = some t := by simpa using hkd
   refine hdone k t (List.mem_range.1 hk) hkd' ?_ (hL k (List.mem_range.1 hk))
   cases hkm : mem.contains k with
   | false => rfl
   | true =>
    have := List.any_eq_false.1 hno k (List.contains_iff_mem.1 hkm)
    simp [hkd'] at this
end Go.Proofs.YtmpciohmljpncaaGreatDoor

/- Paths in plain Lean: what may be a path, and how Split and ContainsFunc tell it. -/
namespace Go.Proofs.YtmpciohmljpncaaGreatDoor
open Go.Lib
/-- may a byte stand in a part? -/
def sgnN (n : Nat) : Bool := (decide (97 ≤ n) && decide (n ≤ 122)) || (decide (48 ≤ n) && decide (n ≤ 57)) || n == 45 || n == 95 || n == 46
def sgn (c : UInt8) : Bool := sgnN c.toNat
/-- one byte more of a path: none: it is none; else: has the last part a byte? -/
def stepP (st : Option Bool) (c : UInt8) : Option Bool :=
 match st with
 | none => none
 | some b => if c = 47 then (if b then some false else none) else if sgn c then some true else none
def runP (l : List UInt8) : Option Bool := l.foldl stepP (some false)
theorem foldl_none (l : List UInt8) : l.foldl stepP none = none := by
 induction l with
 | nil => rfl
 | cons c l ih => simpa [stepP] using ih
def isPath (l : List UInt8) : Bool := l == [47] || (decide (2 ≤ l.length) && decide (l.length ≤ 60) && l.head? == some 47 && runP l.tail == some true)
/-- a part -/
def partB (p : List UInt8) : Bool := !p.isEmpty && p.all sgn
theorem run_part (p : List UInt8) (b : Bool) (hp : 47 ∉ p) : p.foldl stepP (some b) = if p.all sgn then some (b || !p.isEmpty) else none := by
 induction p generalizing b with
 | nil => simp
 | cons c p ih =>
  have hc : c ≠ 47 := fun e => hp (by simp [e])
  have hp' : 47 ∉ p := fun e => hp (by simp [e])
  simp only [List.foldl_cons, stepP, if_neg hc, List.all_cons]
  by_cases hs : sgn c = true
  ·rw [if_pos hs, ih true hp']
   simp [hs]
  ·rw [if_neg hs, foldl_none]
   simp [hs]
theorem split_run (k : Nat) (s : List UInt8) (hk : count s [47] = k) : (splitK [47] 0 k s).all partB = (runP s == some true) := by
 induction k generalizing s with
 | zero =>
  have hm : (47 : UInt8) ∉ s := by
   rw [count_one] at hk
   exact List.count_eq_zero.1 hk
  unfold splitK runP
  rw [run_part s false hm]
  by_cases ha : s.all sgn = true
  ·simp [partB, ha]
  ·simp [partB, ha]
 | succ k ih =>
  rcases index_spec s [47] with ⟨h1, _⟩ | ⟨i, h1, hi, hoc, hno⟩
  ·rw [count_miss h1] at hk; omega
  ·have hne : ¬ (index s [47] == -1) = true := fun e => by have := beq_iff_eq.1 e; omega
   have hti : (index s [47]).toNat = i := by omega
   unfold splitK
   rw [if_neg hne, hti]
   have hgi : s[i]? = some 47 := occAt_head rfl hoc
   have hil : i < s.length := (List.getElem?_eq_some_iff.1 hgi).1
   have hcnt := count_hit (sub := [47]) (by simp) h1
   have hlen1 : ([47] : List UInt8).length = 1 := rfl
   rw [hlen1] at hcnt ⊢
   have hk' : count (s.drop (i + 1)) [47] = k := by omega
   have hno47 : (47 : UInt8) ∉ s.take i := by
    intro hmem
    obtain ⟨j, hj, he⟩ := List.getElem_of_mem hmem
    rw [List.length_take] at hj
    have := hno j (by omega)
    rw [List.getElem_take] at he
    unfold occAt at this
    rw [List.drop_eq_getElem_cons (by omega), he] at this
    simp at this
   rw [List.all_cons, ih _ hk', Nat.add_zero]
   have hs : s = s.take i ++ 47 :: s.drop (i + 1) := by
    rw [show (47 : UInt8) = s[i] from (List.getElem?_eq_some_iff.1 hgi).2.symm, List.getElem_cons_drop]
    exact (List.take_append_drop i s).symm
   conv => rhs; rw [hs]
   unfold runP
   rw [List.foldl_append, run_part (s.take i) false hno47]
   by_cases ha : (s.take i).all sgn = true
   ·rw [if_pos ha]
    by_cases he : (s.take i).isEmpty = true
    ·have : partB (s.take i) = false := by simp [partB, he]
     rw [this]
     simp [he, stepP, foldl_none]
    ·have he' : (s.take i).isEmpty = false := by simpa using he
     have : partB (s.take i) = true := by simp [partB, he', ha]
     rw [this, he']
     simp [stepP]
   ·rw [if_neg ha]
    have : partB (s.take i) = false := by simp [partB, ha]
    rw [this, foldl_none]
    simp
/-- a rune that may not stand in a part -/
def wrongN (n : Nat) : Bool := !sgnN n
theorem idx_wrong (s : ByteArray) : ∀ (f pos : Nat), s.size ≤ pos + f → (0 ≤ idxFuncFrom wrongN true s f pos ↔ ∃ j, ∃ h : j < s.size, pos ≤ j ∧ sgn s[j] = false) := by
 intro f
 induction f with
 | zero =>
  intro pos hf
  unfold idxFuncFrom
  constructor
  ·intro h; omega
  ·rintro ⟨j, hj, hp, _⟩; omega
 | succ f ih =>
  intro pos hf
  unfold idxFuncFrom
  by_cases hp : pos < s.size
  ·rw [if_pos hp]
   by_cases ha : (s[pos]'hp).toNat < 128
   ·rw [decode_ascii s pos hp ha]
    by_cases hw : wrongN (s[pos]'hp).toNat = true
    ·rw [if_pos hw]
     constructor
     ·intro _; exact ⟨pos, hp, Nat.le_refl _, by unfold wrongN at hw; unfold sgn; simpa using hw⟩
     ·intro _; omega
    ·rw [if_neg hw, ih (pos + 1) (by omega)]
     have hsg : sgn s[pos] = true := by unfold wrongN at hw; unfold sgn; simpa using hw
     constructor
     ·rintro ⟨j, hj, h1, h2⟩; exact ⟨j, hj, by omega, h2⟩
     ·rintro ⟨j, hj, h1, h2⟩
      refine ⟨j, hj, ?_, h2⟩
      rcases Nat.lt_or_ge pos j with h | h
      ·exact h
      ·obtain rfl : j = pos := by omega
       rw [hsg] at h2; cases h2
   ·obtain ⟨h1, h2⟩ := decode_high s pos hp (by omega)
    have hw : wrongN (Utf8.decode s pos).1 = true := by
     unfold wrongN sgnN
     simp; omega
    rw [if_pos hw]
    constructor
    ·intro _
     refine ⟨pos, hp, Nat.le_refl _, ?_⟩
     unfold sgn sgnN
     simp; omega
    ·intro _; omega
  ·rw [if_neg hp]
   constructor
   ·intro h; omega
   ·rintro ⟨j, hj, hpj, _⟩; omega
theorem contains_wrong (s : ByteArray) : decide (0 ≤ idxFunc wrongN true s) = !(s.data.toList.all sgn) := by
 unfold idxFunc
 rw [Bool.eq_iff_iff, decide_eq_true_eq, idx_wrong s s.size 0 (by omega)]
 simp only [Bool.not_eq_true', List.all_eq_false, Nat.zero_le, true_and]
 constructor
 ·rintro ⟨j, hj, h⟩
  exact ⟨s[j], List.mem_of_getElem? (data_getElem? s j hj), by rw [h]; simp⟩
 ·rintro ⟨x, hx, h⟩
  obtain ⟨j, hj, rfl⟩ := List.getElem_of_mem hx
  have hj' : j < s.size := by simpa using hj
  refine ⟨j, hj', ?_⟩
  have := data_getElem? s j hj'
  rw [List.getElem?_eq_getElem hj] at this
  rw [← Option.some.inj this]
  simpa using h
end Go.Proofs.YtmpciohmljpncaaGreatDoor
