
/- Rules whose lists lie in no row of rules; a row of rules that is written. -/
import Derived.Test.YtlaaapfpchnmeaaGreatDoorGnK
namespace Go.Proofs.YtlaaapfpchnmeaaGreatDoor
open Go.ChangeShapes Go.WideShapes Go.ChangeAt Go.RowKit Go.Lib Go.Shelf
/-- X has none but rows of rules -/
def OnlyRules (w : World) (X : Nat → Prop) : Prop := ∀ g cs T f, w.heap[g]? = some (.cells cs T f) → T ≠ 52 → ¬ X g
/-- a list's block is no row of rules -/
def LI (w : World) (v : Value) : Prop := ∀ g, v.ownBlock = some g → ∃ cs T f, w.heap[g]? = some (.cells cs T f) ∧ T ≠ 52
theorem LI.of_own {w : World} {B : Nat} {T : TypeId} {size n : Nat} {v : Value} {xs : List Value} (h : w.ownsRow B T size v n xs) (hT : T ≠ 52) : LI w v := fun g hg => by
  obtain ⟨c, fz, hc⟩ := ownsRow_kind h g hg
  exact ⟨c, T, fz, hc, hT⟩
theorem LI.keeps {X : Nat → Prop} {w w' : World} {v : Value} (h : LI w v) (k : Keeps X w w') (hx : OnlyRules w X) : LI w' v := fun g hg => by
  obtain ⟨cs, T, f, h1, h2⟩ := h g hg
  exact ⟨cs, T, f, (k.block g (Array.getElem?_eq_some_iff.1 h1).1 (hx g cs T f h1 h2)).trans h1, h2⟩
theorem onlyRules_none (w : World) : OnlyRules w (fun _ => False) := fun _ _ _ _ _ _ h => h
theorem LI.ext {w w' : World} {v : Value} (h : LI w v) (e : Ext w w') : LI w' v := h.keeps (Keeps.of_ext (X := fun _ => False) e) (onlyRules_none w)
theorem Sl.keeps {α : Type} {enc : α → List Value} {size : Nat} {X : Nat → Prop} {w w' : World} {v : Value} {xs : List α} (h : Sl enc size w v xs) (hl : LI w v) (k : Keeps X w w') (hx : OnlyRules w X) : Sl enc size w' v xs := by
  obtain ⟨h1, a, cap, rfl, hcap, hc⟩ := h
  refine ⟨h1, a, cap, rfl, hcap, fun i x hi => ?_⟩
  obtain ⟨b, off, rfl, hb, hcc⟩ := hc i x hi
  obtain ⟨cs, T, f, g1, g2⟩ := hl b rfl
  exact ⟨b, off, rfl, Nat.lt_of_lt_of_le hb k.size, fun j u hu => (k.cell (p := ⟨b, off + i * size + j, none⟩) hb (hx b cs T f g1 g2)).trans (hcc j u hu)⟩
structure RuleIn (w : World) (r : RuleD) : Prop where
  ok : RuleOk w r
  h : LI w r.hv
  p : LI w r.pv
  s : LI w r.sv
  d : LI w r.dv
theorem RuleIn.keeps {X : Nat → Prop} {w w' : World} {r : RuleD} (h : RuleIn w r) (k : Keeps X w w') (hx : OnlyRules w X) : RuleIn w' r :=
  ⟨⟨Sl.keeps h.ok.1 h.h k hx, Sl.keeps h.ok.2.1 h.p k hx, Sl.keeps h.ok.2.2.1 h.s k hx, Sl.keeps h.ok.2.2.2 h.d k hx⟩, h.h.keeps k hx, h.p.keeps k hx, h.s.keeps k hx, h.d.keeps k hx⟩
theorem RuleIn.ext {w w' : World} {r : RuleD} (h : RuleIn w r) (e : Ext w w') : RuleIn w' r := h.keeps (Keeps.of_ext (X := fun _ => False) e) (onlyRules_none w)
theorem RuleOwn.rin {B : Nat} {w : World} {r : RuleD} (h : RuleOwn B w r) : RuleIn w r :=
  ⟨h.ok, LI.of_own h.1 (by decide), LI.of_own h.2.1 (by decide), LI.of_own h.2.2.1 (by decide), LI.of_own h.2.2.2 (by decide)⟩
theorem onlyRules_own {w : World} {B : Nat} {size n : Nat} {v : Value} {xs : List Value} (h : w.ownsRow B 52 size v n xs) : OnlyRules w (fun q => v.ownBlock = some q) := fun _ _ _ _ hg hT e => hT (owns_type h e hg)
theorem OnlyRules.ext {X : Nat → Prop} {w w' : World} (h : OnlyRules w X) (e : Ext w w') (hX : ∀ g, X g → g < w.heap.size) : OnlyRules w' X := fun g cs T f hg hT hx => by
  rw [e.block g (hX g hx)] at hg
  exact h g cs T f hg hT hx
/-- a list with some cells written, one behind the other -/
def setL : List Value → Nat → List Value → List Value
  | xs, _, [] => xs
  | xs, j, v :: vs => setL (xs.set j v) (j + 1) vs
theorem setL_right (us : List Value) : ∀ (vs : List Value) (rest : List Value) (j : Nat), setL (us ++ rest) (us.length + j) vs = us ++ setL rest j vs
  | [], _, _ => rfl
  | v :: vs, rest, j => by
    unfold setL
    rw [List.set_append_right _ _ (by omega), Nat.add_sub_cancel_left, Nat.add_assoc]
    exact setL_right us vs _ _
theorem setL_all : ∀ (us vs rest : List Value), vs.length = us.length → setL (us ++ rest) 0 vs = vs ++ rest
  | [], [], _, _ => rfl
  | u :: us, v :: vs, rest, h => by
    show setL (v :: (us ++ rest)) 1 vs = v :: (vs ++ rest)
    have h1 := setL_right [v] vs (us ++ rest) 0
    have h2 := setL_all us vs rest (by simpa using h)
    rw [h2] at h1
    exact h1
  | [], _ :: _, _, h => by simp at h
  | _ :: _, [], _, h => by simp at h
theorem setL_rules (r' : RuleD) : ∀ (Rs : List RuleD) (k : Nat), k < Rs.length → setL (Rs.flatMap encR) (k * 19) (encR r') = (Rs.set k r').flatMap encR
  | [], k, h => by simp at h
  | r :: Rs, 0, _ => by
    show setL (encR r ++ Rs.flatMap encR) 0 (encR r') = encR r' ++ Rs.flatMap encR
    exact setL_all _ _ _ rfl
  | r :: Rs, k + 1, h => by
    have h1 := setL_right (encR r) (encR r') (Rs.flatMap encR) (k * 19)
    have h2 := setL_rules r' Rs k (by simpa using h)
    rw [h2] at h1
    have e : (k + 1) * 19 = (encR r).length + k * 19 := by rw [encR_len, Nat.add_mul, Nat.one_mul, Nat.add_comm]
    rw [e]
    exact h1
theorem own_setCells {base n cap g size : Nat} {e : TypeId} : ∀ (vs : List Value) (j : Nat) (w : World) (xs : List Value), w.ownsRow base e size (.slice (some ⟨g, 0, none⟩) n cap) n xs → (w.setCells g j vs).ownsRow base e size (.slice (some ⟨g, 0, none⟩) n cap) n (setL xs j vs)
  | [], _, _, _, h => h
  | v :: vs, j, _, _, h => own_setCells vs (j + 1) _ _ (h.stored j v).1
theorem own_there {w : World} {base n cap g : Nat} {Rs : List RuleD} (h : w.ownsRow base 52 19 (.slice (some ⟨g, 0, none⟩) n cap) n (Rs.flatMap encR)) (_hn : n = Rs.length) (k : Nat) (hk : k < Rs.length) : w.there g (k * 19) 19 := fun j hj => by
  refine ⟨?_, h.frozenAt _⟩
  have hlen : (Rs.flatMap encR).length = Rs.length * 19 := length_flatMap_enc encR_len Rs
  have hlt : k * 19 + j < (Rs.flatMap encR).length := by
    rw [hlen]
    have : k * 19 + 19 ≤ Rs.length * 19 := by
      have := Nat.mul_le_mul_right 19 (show k + 1 ≤ Rs.length from hk)
      omega
    omega
  have := h.cells (g := g) rfl (k * 19 + j) _ (List.getElem?_eq_getElem hlt)
  rw [add_cell] at this
  rw [this]
  rfl
end Go.Proofs.YtlaaapfpchnmeaaGreatDoor
