/- Merged texts (GnC, Zg). -/
import Derived.Deep.Cut
import Derived.Test.YtkhebanpplokdaaGreatDoorZe
import Derived.Test.YtkhebanpplokdaaGreatDoorRtJ
namespace Go.Proofs.YtkhebanpplokdaaGreatDoor
open Go.ChangeShapes Go.WideShapes Go.ChangeAt Go.RowKit Go.Lib Go.Shelf
theorem owns_le {w : World} {base base' size n : Nat} {e : TypeId} {v : Value} {xs : List Value} (h : w.ownsRow base e size v n xs) (hb : base' ≤ base) : w.ownsRow base' e size v n xs := by
 obtain ⟨h1, h2⟩ := h
 refine ⟨h1, ?_⟩
 rcases h2 with h2 | ⟨g, cap, cur, hv, hg, r⟩
 ·exact .inl h2
 ·exact .inr ⟨g, cap, cur, hv, by omega, r⟩
theorem setCells_block (b : Nat) (T : TypeId) (fr : Nat × Nat) : ∀ (vs : List Value) (o : Nat) (w : World) (cs : Array Value), w.heap[b]? = some (.cells cs T fr) → ∃ cs', (w.setCells b o vs).heap[b]? = some (.cells cs' T fr) ∧ cs'.size = cs.size
 | [], _, w, cs, h => ⟨cs, h, rfl⟩
 | v :: r, o, w, cs, h => by
  have h2 : (w.setCell ⟨b, o, none⟩ v).heap[b]? = some (.cells (cs.setIfInBounds o v) T fr) := by
   obtain ⟨hlt, hk⟩ := Array.getElem?_eq_some_iff.1 h
   show (w.heap.modify b _)[b]? = _
   rw [Array.getElem?_eq_getElem (by rw [Array.size_modify]; exact hlt), Array.getElem_modify_self, hk]
   rfl
  obtain ⟨cs', h3, h4⟩ := setCells_block b T fr r (o + 1) _ _ h2
  exact ⟨cs', h3, by simpa using h4⟩
theorem BoxR.of_range {w : World} {b : Nat} {r : RuleD} {cs : Array Value} (h : w.heap[b]? = some (.cells cs 89 (0, 0))) (hs : cs.size = 19) (hr : w.rangeAt b 0 (encR r)) : BoxR w b r := by
 refine ⟨cs, h, ?_⟩
 apply List.ext_getElem?
 intro j
 by_cases hj : j < 19
 ·have := hr j (encR r)[j] (List.getElem?_eq_getElem hj)
  rw [Nat.zero_add] at this
  simp only [World.cell?, h] at this
  rw [List.getElem?_eq_getElem (l := encR r) hj]
  simpa using this
 ·rw [List.getElem?_eq_none (by simp; omega), List.getElem?_eq_none (by show 19 ≤ j; omega)]
/-- the i-th number, made small; 0 behind the last -/
def kN (L : List Int) (j : Nat) : Nat := if h : j < L.length then arN L[j] 1000000 else 0
def core0 (s : ByteArray) (L : List Int) : RuleD := ⟨s, kN L 0 % 3 == 1, .slice none 0 0, matchH (kN L 1) (kN L 2), .slice none 0 0, [], 0, 0, 0, 0, ⟨#[]⟩, .slice none 0 0, [], .slice none 0 0, [], 0, 0, 0, 0, 0, 0, 0, 0⟩
def core1 (s : ByteArray) (L : List Int) : RuleD := { core0 s L with P := [(1 + (kN L 3 : Int) % 4, 1 + (kN L 3 : Int) / 4 % 5)] }
def core2 (s : ByteArray) (L : List Int) : RuleD := if (kN L 3 : Int) % 3 = 1 then { core1 s L with P := (core1 s L).P ++ [(1 + ((kN L 3 : Int) + 1) % 4, (kN L 3 : Int) / 20 % 4)] } else core1 s L
def core3 (s : ByteArray) (L : List Int) : RuleD := if (kN L 4 : Int) % 5 = 1 then { core2 s L with mi := 1 + (kN L 4 : Int) / 5 % 4 } else core2 s L
def core4 (s : ByteArray) (L : List Int) : RuleD := if (kN L 4 : Int) % 7 = 2 then { core3 s L with ab := (kN L 4 : Int) / 7 % 4, de := (kN L 4 : Int) / 28 % 3, ti := (kN L 4 : Int) / 84 % 9 } else core3 s L
def pathA (n : Nat) : ByteArray := ⟨(pathN n).toArray⟩
def core5 (s : ByteArray) (L : List Int) : RuleD := if (kN L 5 : Int) % 3 = 1 then { core4 s L with pre := pathA (kN L 5 / 3) } else core4 s L
def core6 (s : ByteArray) (L : List Int) : RuleD := if (kN L 5 : Int) % 4 = 1 then { core5 s L with S := [(⟨#[97]⟩, vlM (kN L 5 / 4 % 3))] } else core5 s L
def core7 (s : ByteArray) (L : List Int) : RuleD := if (kN L 5 : Int) % 5 = 1 then { core6 s L with D := [⟨#[98]⟩] } else core6 s L
def core8 (s : ByteArray) (L : List Int) : RuleD := { core7 s L with q0 := 5 + (kN L 6 : Int) % 60, q1 := 1 + (kN L 6 : Int) / 60 % 4, q2 := (kN L 6 : Int) / 240 % 5, q3 := 0, q4 := 0, q5 := 0, q6 := 0 }
def core9 (s : ByteArray) (L : List Int) : RuleD := if (kN L 7 : Int) % 3 = 1 then { core8 s L with q3 := 3 + (kN L 7 : Int) / 3 % 20 } else core8 s L
def core10 (s : ByteArray) (L : List Int) : RuleD := { core9 s L with q4 := (kN L 7 : Int) / 60 % 4, q5 := 1 + (kN L 7 : Int) / 240 % 4, q6 := (kN L 7 : Int) / 960 % 4 }
/-- the rule made of numbers, wherever its lists lie -/
def genR (L : List Int) : RuleD := core10 (pathA (kN L 0 / 3)) L
/-- what stands behind the n-th statement -/
def rightOf : Nat → Code → Code
 | 0, c => c
 | n + 1, .seq _ b => rightOf n b
 | _, c => c
end Go.Proofs.YtkhebanpplokdaaGreatDoor

/- ref08.Rule (printed by wip/gen_rule2.py). -/
namespace Go.Proofs.YtkhebanpplokdaaGreatDoor
open Go.ChangeShapes Go.WideShapes Go.ChangeAt Go.RowKit Go.Lib Go.Shelf
end Go.Proofs.YtkhebanpplokdaaGreatDoor

/- ref08.Rules: up to five rules made of numbers. -/
namespace Go.Proofs.YtkhebanpplokdaaGreatDoor
open Go.ChangeShapes Go.WideShapes Go.ChangeAt Go.RowKit Go.Lib Go.Shelf
/-- how many rules come of so many numbers -/
def rulesN (L : List Int) : Nat := min 5 ((L.length + 7) / 8)
end Go.Proofs.YtkhebanpplokdaaGreatDoor

/- The paths made of numbers are paths. -/
namespace Go.Proofs.YtkhebanpplokdaaGreatDoor
open Go.ChangeShapes Go.WideShapes Go.ChangeAt Go.RowKit Go.Lib Go.Shelf
end Go.Proofs.YtkhebanpplokdaaGreatDoor

/- The rules made of numbers are right. -/
namespace Go.Proofs.YtkhebanpplokdaaGreatDoor
open Go.ChangeShapes Go.WideShapes Go.ChangeAt Go.RowKit Go.Lib Go.Shelf
end Go.Proofs.YtkhebanpplokdaaGreatDoor
