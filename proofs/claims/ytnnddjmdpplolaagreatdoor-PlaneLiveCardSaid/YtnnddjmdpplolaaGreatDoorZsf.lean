/- Merged texts (SnF, SnG, SnH, SwA). -/
import Derived.Test.YtnnddjmdpplolaaGreatDoorSnE
import Derived.Test.YtnnddjmdpplolaaGreatDoorZcy
import Derived.Test.YtnnddjmdpplolaaGreatDoorZhr

/- Configurations that are made of numbers are right; ref16.IDs (printed by wip/gen_snf.py). -/
namespace Go.Proofs.YtnnddjmdpplolaaGreatDoor
open Go.ChangeShapes Go.WideShapes Go.ChangeAt Go.RowKit Go.Lib Go.Shelf Go.Maps
theorem fit_core {c : ConfD} (h : ConfFit c.core) : ConfFit c := by
 obtain ⟨h1, h2, h3, h4, h5, h6, h7⟩ := h
 refine ⟨fun s hs => ?_, h2, fun r hr => ?_, ?_, h5, ?_, h7⟩
 ·have := h1 s.core (List.mem_map.2 ⟨s, hs, rfl⟩)
  exact this
 ·have := h3 r.core (List.mem_map.2 ⟨r, hr, rfl⟩)
  exact this
 ·have : (c.S.map SvcD.core).length ≤ 1000 := h4
  simpa using this
 ·have : (c.R.map RuleD.core).length ≤ 1000 := h6
  simpa using this
theorem good_conf {c : ConfD} {L : List Int} (h : c.core = genC L) : ConfFit c ∧ chkC c = 0 ∧ c.E.length ≤ 10 := by
 refine ⟨fit_core (h ▸ genC_fit L), by rw [← chkC_core, h, genC_right], ?_⟩
 have e : c.E = (genC L).E := by
  have : c.core.E = (genC L).E := by rw [h]
  exact this
 rw [e]
 have hm := svcsM_bd L
 show (endsA L (svcsM L) ++ endsZ L (svcsM L) (endsM L)).length ≤ 10
 rw [List.length_append, endsA_len, endsZ_len]
 unfold endsM
 omega
theorem ints_nil (w : World) : Ints w (.slice none 0 0) [] := ⟨by simp, none, 0, rfl, by simp, fun i x hi => by simp at hi⟩
end Go.Proofs.YtnnddjmdpplolaaGreatDoor

/- Layer 16: the document's example (printed by wip/gen_snf.py). -/
namespace Go.Proofs.YtnnddjmdpplolaaGreatDoor
open Go.ChangeShapes Go.WideShapes Go.ChangeAt Go.RowKit Go.Lib Go.Shelf Go.Maps
end Go.Proofs.YtnnddjmdpplolaaGreatDoor

/- Law 16's made (printed by wip/gen_snh.py). -/
namespace Go.Proofs.YtnnddjmdpplolaaGreatDoor
open Go.ChangeShapes Go.WideShapes Go.ChangeAt Go.RowKit Go.Lib Go.Shelf Go.Maps
/-- the phases of a copy into the result's box -/
def PhBx (W : World) (b : Nat) (c : ConfD) : List Value → World → Prop
 | [], w' => Ext W w'
 | _ :: _, w' => ∃ w8, Ext W w8 ∧ Ext (w8.setCells b 0 (encC c)) w'
theorem PhBx.keep {W : World} {b : Nat} {c : ConfD} : ∀ {vs : List Value} {w' w'' : World}, PhBx W b c vs w' → Ext w' w'' → PhBx W b c vs w''
 | [], _, _, h, e => Ext.trans h e
 | _ :: _, _, _, ⟨w8, h1, h2⟩, e => ⟨w8, h1, h2.trans e⟩
theorem PhBx.x {W : World} {b : Nat} {c : ConfD} {vs : List Value} {w' : World} (h : PhBx W b c vs w') (hl : vs.length ≤ 0) : Ext W w' := by
 rcases vs with _ | ⟨v, vs⟩
 ·exact h
 ·simp at hl
/-- a version stands while blocks below its base are written -/
theorem SnapIs.keepB {B : Nat} {w w' : World} {b : Nat} {ver : Int} {d : ConfD} {bt bs br : Nat} {nb : Value} {Rs : List RuleD} {g : Int → Option Value} {X : Nat → Prop} (h : SnapIs B w b ver d bt bs br nb Rs g) (k : Keeps X w w') (hX : ∀ q, X q → q < B) : SnapIs B w' b ver d bt bs br nb Rs g := by
 have hox : ∀ {e : TypeId} {size n : Nat} {v : Value} {xs : List Value}, w.ownsRow B e size v n xs → w'.ownsRow B e size v n xs := fun h => owns_keeps h k fun q hq hx => by
  have := (h.lt q hq).1
  have := hX q hx
  omega
 have hbk : ∀ q, B ≤ q → q < w.heap.size → w'.heap[q]? = w.heap[q]? := fun q h1 h2 => k.block q h2 fun hx => by
  have := hX q hx
  omega
 have hring : ∀ {r : Value} {n : Nat} {P : List (Int × Int)}, Rg.RingNew B w r n P → Rg.RingNew B w' r n P := fun h => by
  obtain ⟨h0, h00, Q, a, cap, h1, h2, h3, h4, h5⟩ := h
  refine ⟨h0, h00, Q, a, cap, h1, (hbk Q h4 (Array.getElem?_eq_some_iff.1 h2).1).trans h2, ?_, h4, h5⟩
  obtain ⟨q1, a', cap', q2, q3, q4⟩ := h3
  refine ⟨q1, a', cap', q2, q3, fun i x hi => ?_⟩
  obtain ⟨b, off, ha, hb, hc⟩ := q4 i x hi
  have hab : B ≤ b := by
   simp only [Value.slice.injEq] at q2
   exact h5 ⟨b, off, none⟩ (q2.1.trans ha)
  exact ⟨b, off, ha, Nat.lt_of_lt_of_le hb k.size, fun j u hu => (World.cell?_of_block (w := w) (a := ⟨b, off + i * 2 + j, none⟩) (hbk b hab hb)).trans (hc j u hu)⟩
 obtain ⟨n1, hs1⟩ := h.sm
 obtain ⟨n2, hs2⟩ := h.rm
 obtain ⟨t1, ⟨vr, vi, t2, t3, t4⟩, t5⟩ := h.tab
 refine ⟨h.hb, h.hbs, h.hbr, (hbk b h.hb h.box.lt).trans h.box, ⟨hox h.own.s, fun s hs => hox (h.own.k s hs), hox h.own.e, hox h.own.r, fun r hr => ?_, hox h.own.t⟩, ⟨t1, ⟨vr, vi, (hbk bt t1 (Array.getElem?_eq_some_iff.1 t2).1).trans t2, hox t3, hox t4⟩, fun r hr => ?_⟩, h.rs, ⟨n1, hs1.keepB (hbk bs h.hbs hs1.lt)⟩, ⟨n2, hs2.keepB (hbk br h.hbr hs2.lt)⟩, h.rg, fun id v hv => hring (h.ring id v hv), hring h.nob, h.right, h.few⟩
 ·have := h.own.rr r hr
  exact ⟨hox this.1, hox this.2.1, hox this.2.2.1, hox this.2.2.2⟩
 ·have := t5 r hr
  exact ⟨hox this.1, hox this.2.1, hox this.2.2.1, hox this.2.2.2⟩
theorem SnapAt.keepB {B : Nat} {w w' : World} {b : Nat} {ver : Int} {c : ConfD} {X : Nat → Prop} (h : SnapAt B w b ver c) (k : Keeps X w w') (hX : ∀ q, X q → q < B) : SnapAt B w' b ver c := by
 obtain ⟨d, bt, bs, br, nb, Rs, g, h, hc⟩ := h
 exact ⟨d, bt, bs, br, nb, Rs, g, h.keepB k hX, hc⟩
end Go.Proofs.YtnnddjmdpplolaaGreatDoor

/- Laws on versions: what they share (printed by wip/gen_swe.py). -/
namespace Go.Proofs.YtnnddjmdpplolaaGreatDoor
open Go.ChangeShapes Go.WideShapes Go.ChangeAt Go.RowKit Go.Lib Go.Shelf Go.Maps
end Go.Proofs.YtnnddjmdpplolaaGreatDoor
