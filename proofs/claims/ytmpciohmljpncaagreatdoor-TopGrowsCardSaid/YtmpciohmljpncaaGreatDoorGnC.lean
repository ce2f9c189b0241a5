import Derived.Deep.Cut
import Derived.Test.YtmpciohmljpncaaGreatDoorZe
import Derived.Test.YtmpciohmljpncaaGreatDoorZrl
namespace Go.Proofs.YtmpciohmljpncaaGreatDoor
open Go.ChangeShapes Go.WideShapes Go.ChangeAt Go.RowKit Go.Lib Go.Shelf
theorem owns_le {w : World} {base base' size n : Nat} {e : TypeId} {v : Value} {xs : List Value} (h : w.ownsRow base e size v n xs) (hb : base' ≤ base) : w.ownsRow base' e size v n xs := by
 obtain ⟨h1, h2⟩ := h
 refine ⟨h1, ?_⟩
 rcases h2 with h2 | ⟨g, cap, cur, hv, hg, r⟩
 ·exact .inl h2
 ·exact .inr ⟨g, cap, cur, hv, by omega, r⟩
/-- a rule that is being made: its box, its lists, and the eight numbers -/
structure RS (w0 w : World) (b2 b6 : Nat) (v3 : Value) (K : List Int) (r : RuleD) : Prop where
 ext : Ext w0 w
 box : BoxR w b6 r
 own : RuleOwn w0.heap.size w r
 bx2 : ∃ cs : Array Value, w.heap[b2]? = some (.cells cs 57 (0, 0)) ∧ cs.size = 19
 k : w.ownsRow w0.heap.size 3 1 v3 8 (K.flatMap encI)
 ge6 : w0.heap.size ≤ b6
 ge2 : w0.heap.size ≤ b2
 ne : b2 ≠ b6
theorem RS.keep {w0 w w' : World} {b2 b6 : Nat} {v3 : Value} {K : List Int} {r : RuleD} (h : RS w0 w b2 b6 v3 K r) (e : Ext w w') : RS w0 w' b2 b6 v3 K r := by
 obtain ⟨cs, h1, h2⟩ := h.bx2
 exact ⟨Ext.trans h.ext e, h.box.keep (e.block _ h.box.lt), h.own.ext e, ⟨cs, (e.block _ (Array.getElem?_eq_some_iff.1 h1).1).trans h1, h2⟩, owns_ext h.k e, h.ge6, h.ge2, h.ne⟩
theorem RS.set {w0 w : World} {b2 b6 : Nat} {v3 : Value} {K : List Int} {r : RuleD} (h : RS w0 w b2 b6 v3 K r) (j : Nat) (v : Value) (r' : RuleD) (he : encR r' = (encR r).set j v) (ho : RuleOwn w0.heap.size w r') : RS w0 (w.setCell ⟨b6, j, none⟩ v) b2 b6 v3 K r' := by
 obtain ⟨cs, h1, h2⟩ := h.bx2
 obtain ⟨cb, hb, -⟩ := h.box
 have hk := Keeps.of_set (X := fun g => g = b6) w b6 j v rfl
 exact ⟨Keeps.ext h.ext hk (fun g hg => by have := h.ge6; omega), h.box.set j v he, ho.keeps hk (fun g hg e => by subst e; rcases ho.type hg hb with h' | h' | h' <;> exact absurd h' (by decide)),
  ⟨cs, (hk.block _ (Array.getElem?_eq_some_iff.1 h1).1 h.ne).trans h1, h2⟩, owns_keeps h.k hk (fun g hg e => by subst e; exact absurd (owns_type h.k hg hb) (by decide)), h.ge6, h.ge2, h.ne⟩
theorem setCells_block (b : Nat) (T : TypeId) (fr : Nat × Nat) : ∀ (vs : List Value) (o : Nat) (w : World) (cs : Array Value), w.heap[b]? = some (.cells cs T fr) → ∃ cs', (w.setCells b o vs).heap[b]? = some (.cells cs' T fr) ∧ cs'.size = cs.size
 | [], _, w, cs, h => ⟨cs, h, rfl⟩
 | v :: r, o, w, cs, h => by
  have h2 : (w.setCell ⟨b, o, none⟩ v).heap[b]? = some (.cells (cs.setIfInBounds o v) T fr) := by
   obtain ⟨hlt, hk⟩ := Array.getElem?_eq_some_iff.1 h
   show (w.heap.modify b _)[b]? = _
   rw [Array.getElem?_eq_getElem (by rw [Array.size_modify]; exact hlt), Array.getElem_modify_self, hk]
   rfl
  obtain ⟨cs', h3, h4⟩ := setCells_block b T fr r (o + 1) _ _ h2
  exact ⟨cs', h3, by simpa using h4⟩
theorem BoxR.of_range {w : World} {b : Nat} {r : RuleD} {cs : Array Value} (h : w.heap[b]? = some (.cells cs 57 (0, 0))) (hs : cs.size = 19) (hr : w.rangeAt b 0 (encR r)) : BoxR w b r := by
 refine ⟨cs, h, ?_⟩
 apply List.ext_getElem?
 intro j
 by_cases hj : j < 19
 ·have := hr j (encR r)[j] (List.getElem?_eq_getElem hj)
  rw [Nat.zero_add] at this
  simp only [World.cell?, h] at this
  rw [List.getElem?_eq_getElem (l := encR r) hj]
  simpa using this
 ·rw [List.getElem?_eq_none (by simp; omega), List.getElem?_eq_none (by show 19 ≤ j; omega)]
theorem RS.cell {w0 w : World} {b2 b6 : Nat} {v3 : Value} {K : List Int} {r : RuleD} (h : RS w0 w b2 b6 v3 K r) (_hl : K.length = 8) : ∃ g c, v3 = .slice (some ⟨g, 0, none⟩) 8 c ∧ ∀ i z, K[i]? = some z → w.cell? ⟨g, i, none⟩ = some (.int .i64 z) := by
 obtain ⟨g, c, hv, -⟩ := owns_form h.k (by omega)
 refine ⟨g, c, hv, fun i z hi => ?_⟩
 have := h.k.cells (g := g) (by rw [hv]; rfl) i (.int .i64 z) (by rw [flat_get, hi]; rfl)
 rw [add_cell] at this
 exact this
set_option maxRecDepth 100000 in
theorem frame183 (x : Nat → Value) : frameOf 183 x = #[x 0, x 1, x 2, x 3, x 4, x 5, x 6, x 7, x 8, x 9, x 10, x 11, x 12, x 13, x 14, x 15, x 16, x 17, x 18, x 19, x 20, x 21, x 22, x 23, x 24, x 25, x 26, x 27, x 28, x 29, x 30, x 31, x 32, x 33, x 34, x 35, x 36, x 37, x 38, x 39, x 40, x 41, x 42, x 43, x 44, x 45, x 46, x 47, x 48, x 49, x 50, x 51, x 52, x 53, x 54, x 55, x 56, x 57, x 58, x 59, x 60, x 61, x 62, x 63, x 64, x 65, x 66, x 67, x 68, x 69, x 70, x 71, x 72, x 73, x 74, x 75, x 76, x 77, x 78, x 79, x 80, x 81, x 82, x 83, x 84, x 85, x 86, x 87, x 88, x 89, x 90, x 91, x 92, x 93, x 94, x 95, x 96, x 97, x 98, x 99, x 100, x 101, x 102, x 103, x 104, x 105, x 106, x 107, x 108, x 109, x 110, x 111, x 112, x 113, x 114, x 115, x 116, x 117, x 118, x 119, x 120, x 121, x 122, x 123, x 124, x 125, x 126, x 127, x 128, x 129, x 130, x 131, x 132, x 133, x 134, x 135, x 136, x 137, x 138, x 139, x 140, x 141, x 142, x 143, x 144, x 145, x 146, x 147, x 148, x 149, x 150, x 151, x 152, x 153, x 154, x 155, x 156, x 157, x 158, x 159, x 160, x 161, x 162, x 163, x 164, x 165, x 166, x 167, x 168, x 169, x 170, x 171, x 172, x 173, x 174, x 175, x 176, x 177, x 178, x 179, x 180, x 181, x 182] := rfl
/-- the phases of one store, of so many cells -/
def PhS (W : World) (b o : Nat) (vs : List Value) : List Value → World → Prop
 | [], w' => Ext W w'
 | [_], w' => ∃ w1, Ext W w1 ∧ w' = w1.setCells b o vs
 | _, _ => False
/-- the phases of a new row of one part, stored -/
def PhP (W : World) (b : Nat) (p : Int × Int) : List Value → World → Prop
 | [], w' => Ext W w'
 | [s], w' => Ext W w' ∧ w'.ownsRow W.heap.size 60 2 s 1 (encP p)
 | [s, _], w' => ∃ w1, Ext W w1 ∧ w1.ownsRow W.heap.size 60 2 s 1 (encP p) ∧ w' = w1.setCell ⟨b, 3, none⟩ s
 | _, _ => False
theorem RS.kc {w0 w : World} {b2 b6 g c : Nat} {K : List Int} {r : RuleD} (h : RS w0 w b2 b6 (.slice (some ⟨g, 0, none⟩) 8 c) K r) (i : Nat) (z : Int) (hi : K[i]? = some z) : w.cell? ⟨g, i, none⟩ = some (.int .i64 z) := by
 have := h.k.cells (g := g) rfl i (.int .i64 z) (by rw [flat_get, hi]; rfl)
 rw [add_cell] at this
 exact this
/-- the phases of one part more -/
def PhQ (W : World) (B b : Nat) (v : Value) (P : List (Int × Int)) (p : Int × Int) : List Value → World → Prop
 | [], w' => Ext W w'
 | [s], w' => Ext W w' ∧ Parts w' s [p]
 | [_, u], w' => ∃ x y, u = .slice x (P.length + 1) y ∧ w'.ownsRow B 60 2 u (P.length + 1) (P.flatMap encP ++ [p].flatMap encP) ∧ Keeps (fun g => v.ownBlock = some g) W w'
 | [_, u, _], w' => ∃ w1, w1.ownsRow B 60 2 u (P.length + 1) (P.flatMap encP ++ [p].flatMap encP) ∧ Keeps (fun g => v.ownBlock = some g) W w1 ∧ w' = w1.setCell ⟨b, 3, none⟩ u
 | _, _ => False
theorem parts_new1 (w : World) (a b : Int) (T : TypeId) : Parts (w.alloc (.cells #[.int .i64 a, .int .i64 b] T)) (.slice (some ⟨w.heap.size, 0, none⟩) 1 1) [(a, b)] := by
 have h := World.ownsRow_lit (base := 0) (e := T) (size := 2) w #[.int .i64 a, .int .i64 b] 1 (Nat.zero_le _) (by unfold maxLen; omega) rfl
 exact Sl.of_own' (enc := encP) (xs := [(a, b)]) (fun _ => rfl) (base := 0) (e := T) h
theorem RS.app {w0 W w1 : World} {b2 b6 : Nat} {v3 pv u : Value} {K : List Int} {r : RuleD} {p : Int × Int} (h : RS w0 W b2 b6 v3 K r) (hk : Keeps (fun g => pv.ownBlock = some g) W w1)
  (ho : W.ownsRow w0.heap.size 60 2 pv r.P.length (r.P.flatMap encP)) (hu : w1.ownsRow w0.heap.size 60 2 u (r.P.length + 1) (r.P.flatMap encP ++ [p].flatMap encP)) :
  RS w0 (w1.setCell ⟨b6, 3, none⟩ u) b2 b6 v3 K { r with pv := u, P := r.P ++ [p] } := by
 obtain ⟨cb, hb1, hb2⟩ := h.box
 obtain ⟨c2, h21, h22⟩ := h.bx2
 have hn6 : ¬ pv.ownBlock = some b6 := fun e => absurd (owns_type ho e hb1) (by decide)
 have hn2 : ¬ pv.ownBlock = some b2 := fun e => absurd (owns_type ho e h21) (by decide)
 have hb61 := (hk.block _ h.box.lt hn6).trans hb1
 have hb21 := (hk.block _ (Array.getElem?_eq_some_iff.1 h21).1 hn2).trans h21
 have hu' : w1.ownsRow w0.heap.size 60 2 u (r.P ++ [p]).length ((r.P ++ [p]).flatMap encP) := by simpa using hu
 have hH := owns_keeps h.own.1 hk (fun g h1 h2 => owns_ne h.own.1 ho (by decide) g h1 h2)
 have hS := owns_keeps h.own.2.2.1 hk (fun g h1 h2 => owns_ne h.own.2.2.1 ho (by decide) g h1 h2)
 have hD := owns_keeps h.own.2.2.2 hk (fun g h1 h2 => owns_ne h.own.2.2.2 ho (by decide) g h1 h2)
 have hK := owns_keeps h.k hk (fun g h1 h2 => owns_ne h.k ho (by decide) g h1 h2)
 have hs := Keeps.of_set (X := fun g => g = b6) w1 b6 3 u rfl
 have hE : Ext w0 w1 := Keeps.ext h.ext hk (fun g hg => (ho.lt g hg).1)
 refine ⟨Keeps.ext hE hs (fun g hg => by have := h.ge6; omega), (h.box.keep (hk.block _ h.box.lt hn6)).set 3 u rfl, ⟨?_, ?_, ?_, ?_⟩, ⟨c2, (hs.block _ (Array.getElem?_eq_some_iff.1 hb21).1 h.ne).trans hb21, h22⟩, ?_, h.ge6, h.ge2, h.ne⟩
 ·exact owns_keeps hH hs (fun g hg e => by subst e; exact absurd (owns_type hH hg hb61) (by decide))
 ·exact owns_keeps hu' hs (fun g hg e => by subst e; exact absurd (owns_type hu' hg hb61) (by decide))
 ·exact owns_keeps hS hs (fun g hg e => by subst e; exact absurd (owns_type hS hg hb61) (by decide))
 ·exact owns_keeps hD hs (fun g hg e => by subst e; exact absurd (owns_type hD hg hb61) (by decide))
 ·exact owns_keeps hK hs (fun g hg e => by subst e; exact absurd (owns_type hK hg hb61) (by decide))
/-- the i-th number, made small; 0 behind the last -/
def kN (L : List Int) (j : Nat) : Nat := if h : j < L.length then arN L[j] 1000000 else 0
def KL (L : List Int) (i : Nat) : List Int := (List.range i).map fun j => (kN L j : Int)
theorem KL_succ (L : List Int) (i : Nat) : KL L (i + 1) = KL L i ++ [(kN L i : Int)] := by simp [KL, List.range_succ]
theorem KL_len (L : List Int) (i : Nat) : (KL L i).length = i := by simp [KL]
theorem KL_get (L : List Int) (i j : Nat) (h : j < i) : (KL L i)[j]? = some (kN L j : Int) := by simp [KL, h]
theorem kN_bd (L : List Int) (j : Nat) : kN L j < 1000000 := by
 unfold kN
 split
 ·have := around_bd L[j] 1000000 (by omega)
  unfold arN
  omega
 ·omega
theorem owns_cap {w : World} {base : Nat} {e : TypeId} {size : Nat} {a : Option Addr} {n c m : Nat} {xs : List Value} (h : w.ownsRow base e size (.slice a n c) m xs) : m = n ∧ m ≤ c := by
 rcases h.2 with ⟨hv, rfl⟩ | ⟨g, cap, cur, hv, _, _, hn, _⟩
 ·cases hv
  exact ⟨rfl, Nat.le_refl _⟩
 ·cases hv
  exact ⟨rfl, hn⟩
def core0 (s : ByteArray) (L : List Int) : RuleD := ⟨s, kN L 0 % 3 == 1, .slice none 0 0, matchH (kN L 1) (kN L 2), .slice none 0 0, [], 0, 0, 0, 0, ⟨#[]⟩, .slice none 0 0, [], .slice none 0 0, [], 0, 0, 0, 0, 0, 0, 0, 0⟩
def core1 (s : ByteArray) (L : List Int) : RuleD := { core0 s L with P := [(1 + (kN L 3 : Int) % 4, 1 + (kN L 3 : Int) / 4 % 5)] }
def core2 (s : ByteArray) (L : List Int) : RuleD := if (kN L 3 : Int) % 3 = 1 then { core1 s L with P := (core1 s L).P ++ [(1 + ((kN L 3 : Int) + 1) % 4, (kN L 3 : Int) / 20 % 4)] } else core1 s L
def core3 (s : ByteArray) (L : List Int) : RuleD := if (kN L 4 : Int) % 5 = 1 then { core2 s L with mi := 1 + (kN L 4 : Int) / 5 % 4 } else core2 s L
def core4 (s : ByteArray) (L : List Int) : RuleD := if (kN L 4 : Int) % 7 = 2 then { core3 s L with ab := (kN L 4 : Int) / 7 % 4, de := (kN L 4 : Int) / 28 % 3, ti := (kN L 4 : Int) / 84 % 9 } else core3 s L
def pathA (n : Nat) : ByteArray := ⟨(pathN n).toArray⟩
theorem bl_pathA (s : ByteArray) (n : Nat) (h : bl s = pathN n) : s = pathA n := by
 unfold pathA
 rw [← h]
 rfl
def core5 (s : ByteArray) (L : List Int) : RuleD := if (kN L 5 : Int) % 3 = 1 then { core4 s L with pre := pathA (kN L 5 / 3) } else core4 s L
def core6 (s : ByteArray) (L : List Int) : RuleD := if (kN L 5 : Int) % 4 = 1 then { core5 s L with S := [(⟨#[97]⟩, vlM (kN L 5 / 4 % 3))] } else core5 s L
def core7 (s : ByteArray) (L : List Int) : RuleD := if (kN L 5 : Int) % 5 = 1 then { core6 s L with D := [⟨#[98]⟩] } else core6 s L
def core8 (s : ByteArray) (L : List Int) : RuleD := { core7 s L with q0 := 5 + (kN L 6 : Int) % 60, q1 := 1 + (kN L 6 : Int) / 60 % 4, q2 := (kN L 6 : Int) / 240 % 5, q3 := 0, q4 := 0, q5 := 0, q6 := 0 }
def core9 (s : ByteArray) (L : List Int) : RuleD := if (kN L 7 : Int) % 3 = 1 then { core8 s L with q3 := 3 + (kN L 7 : Int) / 3 % 20 } else core8 s L
def core10 (s : ByteArray) (L : List Int) : RuleD := { core9 s L with q4 := (kN L 7 : Int) / 60 % 4, q5 := 1 + (kN L 7 : Int) / 240 % 4, q6 := (kN L 7 : Int) / 960 % 4 }
/-- the rule made of numbers, wherever its lists lie -/
def genR (L : List Int) : RuleD := core10 (pathA (kN L 0 / 3)) L
theorem RS.laidS {w0 w : World} {b2 b6 : Nat} {v3 : Value} {K : List Int} {r : RuleD} (h : RS w0 w b2 b6 v3 K r) (x y : ByteArray) :
  RS w0 ((w.alloc (.cells #[.string x, .string y] 169)).setCell ⟨b6, 9, none⟩ (.slice (some ⟨w.heap.size, 0, none⟩) 1 1)) b2 b6 v3 K { r with sv := .slice (some ⟨w.heap.size, 0, none⟩) 1 1, S := [(x, y)] } := by
 have hk := h.keep ((Below.refl _ w).alloc (Nat.le_refl _) (.cells #[.string x, .string y] 169))
 have ho := owns_le (World.ownsRow_lit (base := w.heap.size) (e := 169) (size := 2) w #[.string x, .string y] 1 (Nat.le_refl _) (by unfold maxLen; omega) rfl) h.ext.size
 exact hk.set 9 _ _ rfl ⟨hk.own.1, hk.own.2.1, ho, hk.own.2.2.2⟩
theorem RS.laidD {w0 w : World} {b2 b6 : Nat} {v3 : Value} {K : List Int} {r : RuleD} (h : RS w0 w b2 b6 v3 K r) (x : ByteArray) :
  RS w0 ((w.alloc (.cells #[.string x] 9)).setCell ⟨b6, 10, none⟩ (.slice (some ⟨w.heap.size, 0, none⟩) 1 1)) b2 b6 v3 K { r with dv := .slice (some ⟨w.heap.size, 0, none⟩) 1 1, D := [x] } := by
 have hk := h.keep ((Below.refl _ w).alloc (Nat.le_refl _) (.cells #[.string x] 9))
 have ho := owns_le (World.ownsRow_lit (base := w.heap.size) (e := 9) (size := 1) w #[.string x] 1 (Nat.le_refl _) (by unfold maxLen; omega) rfl) h.ext.size
 exact hk.set 10 _ _ rfl ⟨hk.own.1, hk.own.2.1, hk.own.2.2.1, ho⟩
theorem pathof_k (L : List Int) (j : Nat) (X : World) : Calls Tryz.prog 65 #[.int .i64 ((kN L j : Int) / 3)] X fun e w' => e = .returned (.string (pathA (kN L j / 3))) ∧ Ext X w' := by
 have hb := kN_bd L j
 have := pathof_any ((kN L j : Int) / 3) X (by unfold I64; omega)
 have e : arN ((kN L j : Int) / 3) 1000000 = kN L j / 3 := by unfold arN around; rw [if_neg (by omega)]; omega
 rw [e] at this
 refine this.mono ?_
 rintro e w' ⟨s, rfl, hs, hE⟩
 exact ⟨by rw [bl_pathA s _ hs], hE⟩
/-- what stands behind the n-th statement -/
def rightOf : Nat → Code → Code
 | 0, c => c
 | n + 1, .seq _ b => rightOf n b
 | _, c => c
noncomputable def ruleTail (n : Nat) : Code := rightOf n ((Tryz.f27.body).getD .skip)
theorem of_frame183 {P : Program} {C : Code} {Q : Exit → Act → World → Prop} {W : World} (A : Array Value) (hA : A.size = 183) (h : Code.wp P C Q ⟨frameOf 183 (fun t => A.getD t undef), []⟩ W) : Code.wp P C Q ⟨A, []⟩ W := by
 have e := frameOf_self ⟨A, []⟩
 simp only [hA] at e
 rw [e]
 exact h
/-- what ref08.Rule tells -/
def RuleP (L : List Int) (w : World) (e : Ending) (w' : World) : Prop := ∃ r, e = .returned r.val ∧ r.core = genR L ∧ RuleOwn w.heap.size w' r ∧ Ext w w'
end Go.Proofs.YtmpciohmljpncaaGreatDoor
