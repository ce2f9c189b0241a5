import Derived.Test.YtceaeiaoanhlnaaDoorOwCw
import Derived.Test.YtceaeiaoanhlnaaDoorLiAw
import Derived.Test.YtceaeiaoanhlnaaDoorGnCw
namespace Go.Proofs.YtceaeiaoanhlnaaDoor
open Go.ChangeShapes Go.WideShapes Go.ChangeAt Go.RowKit Go.Lib Go.Shelf
/-- a block of parts from lo up to B -/
def PX (lo B : Nat) (W : World) (q : Nat) : Prop := lo ≤ q ∧ q < B ∧ ∃ cs f, W.heap[q]? = some (.cells cs 45 f)
/-- of W's blocks only parts below B were written -/
structure MuP (lo B : Nat) (W w' : World) : Prop where
 k : Keeps (PX lo B W) W w'
 b : ∀ (q : Nat) (cs : Array Value) (t : TypeId) (f : Nat × Nat), W.heap[q]? = some (.cells cs t f) → ∃ cs' : Array Value, w'.heap[q]? = some (.cells cs' t f) ∧ cs'.size = cs.size
section
variable {lo B : Nat} {W w' w'' : World}
theorem MuP.refl (lo B : Nat) (W : World) : MuP lo B W W := ⟨Keeps.refl _ _, fun _ cs _ _ h => ⟨cs, h, rfl⟩⟩
theorem MuP.ext (h : MuP lo B W w') (e : Ext w' w'') : MuP lo B W w'' := by
 refine ⟨h.k.trans (Keeps.of_ext e), fun q cs t f hq => ?_⟩
 obtain ⟨cs', h1, h2⟩ := h.b q cs t f hq
 exact ⟨cs', (e.block q (Array.getElem?_eq_some_iff.1 h1).1).trans h1, h2⟩
theorem MuP.set (h : MuP lo B W w') {q : Nat} (hx : PX lo B W q ∨ W.heap.size ≤ q) (o : Nat) (u : Value) : MuP lo B W (w'.setCell ⟨q, o, none⟩ u) := by
 have k := Keeps.of_set (X := fun g => g = q) w' q o u rfl
 refine ⟨⟨k.os.trans h.k.os, k.tape.trans h.k.tape, k.output.trans h.k.output, Nat.le_trans h.k.size k.size, fun i hi hxi => (k.block i (Nat.lt_of_lt_of_le hi h.k.size) (fun e => ?_)).trans (h.k.block i hi hxi)⟩, fun q' cs t f h' => ?_⟩
 ·subst e
  rcases hx with hx | hx
  ·exact hxi hx
  ·omega
 ·obtain ⟨cs', h1, h2⟩ := h.b q' cs t f h'
  by_cases e : q' = q
  ·subst e
   obtain ⟨c2, h3, h4⟩ := setCells_block q' t f [u] o w' cs' h1
   exact ⟨c2, h3, h4.trans h2⟩
  ·exact ⟨cs', (Below.heap_setCell w' ⟨q, o, none⟩ u q' e).trans h1, h2⟩
theorem MuP.own (h : MuP lo B W w') {base size n : Nat} {e : TypeId} {v : Value} {xs : List Value} (ho : W.ownsRow base e size v n xs) (hB : B ≤ base ∨ 45 ≠ e) : w'.ownsRow base e size v n xs :=
 owns_keeps ho h.k fun g hg hx => by
  rcases hB with hB | hB
  ·have := (ho.lt g hg).1
   have := hx.2.1
   omega
  ·obtain ⟨-, -, cs, f, hc⟩ := hx
   exact hB (owns_type ho hg hc)
theorem MuP.rule (h : MuP lo B W w') {base : Nat} {r : RuleD} (ho : RuleOwn base W r) (hB : B ≤ base) : RuleOwn base w' r :=
 ⟨h.own ho.1 (.inl hB), h.own ho.2.1 (.inl hB), h.own ho.2.2.1 (.inl hB), h.own ho.2.2.2 (.inl hB)⟩
theorem MuP.tab (h : MuP lo B W w') {b : Nat} {Rs : List RuleD} {I : List Int} (hT : TabAt B W b Rs I) : TabAt B w' b Rs I := by
 obtain ⟨h1, ⟨vr, vi, h2, h3, h4⟩, h5⟩ := hT
 exact ⟨h1, ⟨vr, vi, (h.k.block b (Array.getElem?_eq_some_iff.1 h2).1 (fun hx => by have := hx.2.1; omega)).trans h2, h.own h3 (.inl (Nat.le_refl _)), h.own h4 (.inl (Nat.le_refl _))⟩, fun r hr => h.rule (h5 r hr) (Nat.le_refl _)⟩
/-- a row of parts may be written -/
theorem MuP.any (h : MuP lo B W w') {base size g n cap : Nat} {e : TypeId} {xs : List Value} (ho : W.ownsRow base e size (.slice (some ⟨g, 0, none⟩) n cap) n xs) (k : Nat) (hk : k < n * size) : (∃ u, w'.cell? ⟨g, k, none⟩ = some u) ∧ w'.frozen? ⟨g, k, none⟩ = false := by
 rcases ho.2 with ⟨e0, _⟩ | ⟨g', cap', cur, e1, hb, hc, hn, hm, hs, ht⟩
 ·cases e0
 ·cases e1
  obtain ⟨cs', h1, h2⟩ := h.b g cur e (0, 0) hc
  have hlt : k < cs'.size := by
   rw [h2, hs]
   exact Nat.lt_of_lt_of_le hk (Nat.mul_le_mul_right _ hn)
  exact ⟨⟨cs'[k], by simp [World.cell?, h1, hlt]⟩, by simp [World.frozen?, h1]⟩
theorem PX.of {size g n cap : Nat} {xs : List Value} (ho : W.ownsRow lo 45 size (.slice (some ⟨g, 0, none⟩) n cap) n xs) (hlt : g < B) : PX lo B W g := by
 rcases ho.2 with ⟨e0, _⟩ | ⟨g', cap', cur, e1, hb, hc, hn, hm, hs, ht⟩
 ·cases e0
 ·cases e1
  exact ⟨hb, hlt, cur, (0, 0), hc⟩
theorem MuP.out (h : MuP lo B W w') {w : World} (e : Ext w W) (hl : w.heap.size ≤ lo) : Ext w w' := Keeps.ext e h.k fun g hg => Nat.le_trans hl hg.1
end
theorem setL_parts (p : Int × Int) : ∀ (L : List (Int × Int)) (k : Nat), k < L.length → setL (L.flatMap encP) (k * 2) (encP p) = (L.set k p).flatMap encP
 | [], k, h => by simp at h
 | q :: L, 0, _ => by
  show setL (encP q ++ L.flatMap encP) 0 (encP p) = encP p ++ L.flatMap encP
  exact setL_all _ _ _ rfl
 | q :: L, k + 1, h => by
  have h1 := setL_right (encP q) (encP p) (L.flatMap encP) (k * 2)
  have h2 := setL_parts p L k (by simpa using h)
  rw [h2] at h1
  have e : (k + 1) * 2 = (encP q).length + k * 2 := by
   have : (encP q).length = 2 := rfl
   omega
  rw [e]
  exact h1
/-- a pair is stored into a row of pairs -/
theorem own_part {base n cap g : Nat} {w : World} {L : List (Int × Int)} (h : w.ownsRow base 45 2 (.slice (some ⟨g, 0, none⟩) n cap) n (L.flatMap encP)) (_hn : n = L.length) (k : Nat) (hk : k < L.length) (a b : Int) :
  ((w.setCell ⟨g, k * 2, none⟩ (.int .i64 a)).setCell ⟨g, k * 2 + 1, none⟩ (.int .i64 b)).ownsRow base 45 2 (.slice (some ⟨g, 0, none⟩) n cap) n ((L.set k (a, b)).flatMap encP) := by
 have := own_setCells (encP (a, b)) (k * 2) w _ h
 rw [setL_parts (a, b) L k hk] at this
 exact this
end Go.Proofs.YtceaeiaoanhlnaaDoor
