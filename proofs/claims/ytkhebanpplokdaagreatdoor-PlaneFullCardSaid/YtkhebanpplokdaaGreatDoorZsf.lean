/- Merged texts (SnF). -/
import Derived.Test.YtkhebanpplokdaaGreatDoorSnE
import Derived.Test.YtkhebanpplokdaaGreatDoorZcy
import Derived.Test.YtkhebanpplokdaaGreatDoorZhr

/- Configurations that are made of numbers are right; ref16.IDs (printed by wip/gen_snf.py). -/
namespace Go.Proofs.YtkhebanpplokdaaGreatDoor
open Go.ChangeShapes Go.WideShapes Go.ChangeAt Go.RowKit Go.Lib Go.Shelf Go.Maps
theorem fit_core {c : ConfD} (h : ConfFit c.core) : ConfFit c := by
 obtain ⟨h1, h2, h3, h4, h5, h6, h7⟩ := h
 refine ⟨fun s hs => ?_, h2, fun r hr => ?_, ?_, h5, ?_, h7⟩
 ·have := h1 s.core (List.mem_map.2 ⟨s, hs, rfl⟩)
  exact this
 ·have := h3 r.core (List.mem_map.2 ⟨r, hr, rfl⟩)
  exact this
 ·have : (c.S.map SvcD.core).length ≤ 1000 := h4
  simpa using this
 ·have : (c.R.map RuleD.core).length ≤ 1000 := h6
  simpa using this
theorem good_conf {c : ConfD} {L : List Int} (h : c.core = genC L) : ConfFit c ∧ chkC c = 0 ∧ c.E.length ≤ 10 := by
 refine ⟨fit_core (h ▸ genC_fit L), by rw [← chkC_core, h, genC_right], ?_⟩
 have e : c.E = (genC L).E := by
  have : c.core.E = (genC L).E := by rw [h]
  exact this
 rw [e]
 have hm := svcsM_bd L
 show (endsA L (svcsM L) ++ endsZ L (svcsM L) (endsM L)).length ≤ 10
 rw [List.length_append, endsA_len, endsZ_len]
 unfold endsM
 omega
theorem ints_nil (w : World) : Ints w (.slice none 0 0) [] := ⟨by simp, none, 0, rfl, by simp, fun i x hi => by simp at hi⟩
end Go.Proofs.YtkhebanpplokdaaGreatDoor
