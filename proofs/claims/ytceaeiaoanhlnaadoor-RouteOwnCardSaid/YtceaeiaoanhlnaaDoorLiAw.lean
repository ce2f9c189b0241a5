import Derived.Test.YtceaeiaoanhlnaaDoorGnKw
namespace Go.Proofs.YtceaeiaoanhlnaaDoor
open Go.ChangeShapes Go.WideShapes Go.ChangeAt Go.RowKit Go.Lib Go.Shelf
/-- X has none but rows of rules -/
def OnlyRules (w : World) (X : Nat → Prop) : Prop := ∀ g cs T f, w.heap[g]? = some (.cells cs T f) → T ≠ 43 → ¬ X g
/-- a list's block is no row of rules -/
def LI (w : World) (v : Value) : Prop := ∀ g, v.ownBlock = some g → ∃ cs T f, w.heap[g]? = some (.cells cs T f) ∧ T ≠ 43
theorem LI.of_own {w : World} {B : Nat} {T : TypeId} {size n : Nat} {v : Value} {xs : List Value} (h : w.ownsRow B T size v n xs) (hT : T ≠ 43) : LI w v := fun g hg => by
 obtain ⟨c, fz, hc⟩ := ownsRow_kind h g hg
 exact ⟨c, T, fz, hc, hT⟩
theorem LI.keeps {X : Nat → Prop} {w w' : World} {v : Value} (h : LI w v) (k : Keeps X w w') (hx : OnlyRules w X) : LI w' v := fun g hg => by
 obtain ⟨cs, T, f, h1, h2⟩ := h g hg
 exact ⟨cs, T, f, (k.block g (Array.getElem?_eq_some_iff.1 h1).1 (hx g cs T f h1 h2)).trans h1, h2⟩
theorem onlyRules_none (w : World) : OnlyRules w (fun _ => False) := fun _ _ _ _ _ _ h => h
theorem LI.ext {w w' : World} {v : Value} (h : LI w v) (e : Ext w w') : LI w' v := h.keeps (Keeps.of_ext (X := fun _ => False) e) (onlyRules_none w)
theorem Sl.keeps {α : Type} {enc : α → List Value} {size : Nat} {X : Nat → Prop} {w w' : World} {v : Value} {xs : List α} (h : Sl enc size w v xs) (hl : LI w v) (k : Keeps X w w') (hx : OnlyRules w X) : Sl enc size w' v xs := by
 obtain ⟨h1, a, cap, rfl, hcap, hc⟩ := h
 refine ⟨h1, a, cap, rfl, hcap, fun i x hi => ?_⟩
 obtain ⟨b, off, rfl, hb, hcc⟩ := hc i x hi
 obtain ⟨cs, T, f, g1, g2⟩ := hl b rfl
 exact ⟨b, off, rfl, Nat.lt_of_lt_of_le hb k.size, fun j u hu => (k.cell (p := ⟨b, off + i * size + j, none⟩) hb (hx b cs T f g1 g2)).trans (hcc j u hu)⟩
theorem OnlyRules.ext {X : Nat → Prop} {w w' : World} (h : OnlyRules w X) (e : Ext w w') (hX : ∀ g, X g → g < w.heap.size) : OnlyRules w' X := fun g cs T f hg hT hx => by
 rw [e.block g (hX g hx)] at hg
 exact h g cs T f hg hT hx
/-- a list with some cells written, one behind the other -/
def setL : List Value → Nat → List Value → List Value
 | xs, _, [] => xs
 | xs, j, v :: vs => setL (xs.set j v) (j + 1) vs
theorem setL_right (us : List Value) : ∀ (vs : List Value) (rest : List Value) (j : Nat), setL (us ++ rest) (us.length + j) vs = us ++ setL rest j vs
 | [], _, _ => rfl
 | v :: vs, rest, j => by
  unfold setL
  rw [List.set_append_right _ _ (by omega), Nat.add_sub_cancel_left, Nat.add_assoc]
  exact setL_right us vs _ _
theorem setL_all : ∀ (us vs rest : List Value), vs.length = us.length → setL (us ++ rest) 0 vs = vs ++ rest
 | [], [], _, _ => rfl
 | u :: us, v :: vs, rest, h => by
  show setL (v :: (us ++ rest)) 1 vs = v :: (vs ++ rest)
  have h1 := setL_right [v] vs (us ++ rest) 0
  have h2 := setL_all us vs rest (by simpa using h)
  rw [h2] at h1
  exact h1
 | [], _ :: _, _, h => by simp at h
 | _ :: _, [], _, h => by simp at h
theorem own_setCells {base n cap g size : Nat} {e : TypeId} : ∀ (vs : List Value) (j : Nat) (w : World) (xs : List Value), w.ownsRow base e size (.slice (some ⟨g, 0, none⟩) n cap) n xs → (w.setCells g j vs).ownsRow base e size (.slice (some ⟨g, 0, none⟩) n cap) n (setL xs j vs)
 | [], _, _, _, h => h
 | v :: vs, j, _, _, h => own_setCells vs (j + 1) _ _ (h.stored j v).1
end Go.Proofs.YtceaeiaoanhlnaaDoor
