/- Merged texts (SnF). -/
import Derived.Test.YtkhebanpplokdaaGreatDoorSnE
import Derived.Test.YtkhebanpplokdaaGreatDoorZcg
import Derived.Test.YtkhebanpplokdaaGreatDoorZhr
namespace Go.Proofs.YtkhebanpplokdaaGreatDoor
open Go.ChangeShapes Go.WideShapes Go.ChangeAt Go.RowKit Go.Lib Go.Shelf Go.Maps
theorem fit_core {c : ConfD} (h : ConfFit c.core) : ConfFit c := by
 obtain ⟨h1, h2, h3, h4, h5, h6, h7⟩ := h
 refine ⟨fun s hs => ?_, h2, fun r hr => ?_, ?_, h5, ?_, h7⟩
 ·have := h1 s.core (List.mem_map.2 ⟨s, hs, rfl⟩)
  exact this
 ·have := h3 r.core (List.mem_map.2 ⟨r, hr, rfl⟩)
  exact this
 ·have : (c.S.map SvcD.core).length ≤ 1000 := h4
  simpa using this
 ·have : (c.R.map RuleD.core).length ≤ 1000 := h6
  simpa using this
theorem genC0_right : chkC (genC []) = 0 := by kernel_rfl
theorem genC0_fit : ConfFit (genC []) := by
 refine ⟨fun s hs => ?_, fun e he => ?_, fun r hr => ?_, by decide, by decide, by decide, by decide⟩
 ·have hs : s ∈ [svcN [] 1] := hs
  rw [List.mem_singleton.1 hs]
  refine ⟨?_, ?_, ?_, ?_, ?_, ?_, fun p hp => (by cases hp)⟩ <;> exact ⟨by decide, by decide⟩
 ·have he : e ∈ [endA [] 1] := he
  rw [List.mem_singleton.1 he]
  refine ⟨?_, ?_, ?_⟩ <;> exact ⟨by decide, by decide⟩
 ·have hr : r ∈ [lastN 0] := hr
  rw [List.mem_singleton.1 hr]
  refine ⟨⟨by unfold SzB; decide, by unfold SzB; decide, fun x hx => (by cases hx), fun x hx => (by cases hx), fun x hx => (by cases hx), fun x hx => ?_, by decide⟩, by decide, by decide⟩
  rw [List.mem_singleton.1 hx]
  refine ⟨?_, ?_⟩ <;> exact ⟨by decide, by decide⟩
theorem good0 {c : ConfD} (h : c.core = genC []) : ConfFit c ∧ chkC c = 0 ∧ c.E.length ≤ 10 := by
 refine ⟨fit_core (h ▸ genC0_fit), by rw [← chkC_core, h, genC0_right], ?_⟩
 have e : c.E = (genC []).E := by
  have : c.core.E = (genC []).E := by rw [h]
  exact this
 rw [e]
 decide
theorem ints_nil (w : World) : Ints w (.slice none 0 0) [] := ⟨by simp, none, 0, rfl, by simp, fun i x hi => by simp at hi⟩
end Go.Proofs.YtkhebanpplokdaaGreatDoor
