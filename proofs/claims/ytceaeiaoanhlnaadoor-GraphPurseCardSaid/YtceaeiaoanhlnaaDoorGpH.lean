import Derived.Test.YtceaeiaoanhlnaaDoorZgq
namespace Go.Proofs.YtceaeiaoanhlnaaDoor
open Go.ChangeShapes Go.WideShapes Go.ChangeAt Go.RowKit Go.Lib Go.Shelf
/-- of the same ways, times and calls -/
structure Like (c d : ConfD) : Prop where
 hs : ∀ p, svcsOf (onR d.R p) = svcsOf (onR c.R p)
 hc : ∀ p, copiesOf (onR d.R p) = copiesOf (onR c.R p)
 ht : ∀ p, tickD d.R p = tickD c.R p
 hk : ∀ id, (findS d.S id).K = (findS c.S id).K
 hw : ∀ id, (findS d.S id).work = (findS c.S id).work
 ha : allK d = allK c
 hh : d.hop = c.hop
 hl : d.S.length = c.S.length
section
variable {c d : ConfD} (h : Like c d)
include h
theorem Like.targS (p : ByteArray) : targS d.R p = targS c.R p := congrArg Rg.ends (h.hs p)
theorem Like.targC (p : ByteArray) : targC d.R p = targC c.R p := h.hc p
theorem Like.both (p : ByteArray) : bothP d.R p = bothP c.R p := by
 unfold bothP
 rw [h.targS, h.targC]
theorem Like.kids : kidsG d = kidsG c := by
 funext id
 unfold kidsG
 rw [h.hk, show Go.Proofs.YtceaeiaoanhlnaaDoor.targS d.R = Go.Proofs.YtceaeiaoanhlnaaDoor.targS c.R from funext h.targS, show Go.Proofs.YtceaeiaoanhlnaaDoor.targC d.R = Go.Proofs.YtceaeiaoanhlnaaDoor.targC c.R from funext h.targC]
theorem Like.nb : nbP d = nbP c := by
 funext p
 unfold nbP
 rw [h.both, show (fun id => (findS d.S id).K) = fun id => (findS c.S id).K from funext h.hk]
theorem Like.way (ps : List ByteArray) : wayC d ps = wayC c ps := by
 unfold wayC
 rw [h.nb, h.ha]
theorem Like.within (id : Int) : withinB d id = withinB c id := by
 unfold withinB
 rw [h.hk, h.way, show bothP d.R = bothP c.R from funext h.both]
theorem Like.circle (ps : List ByteArray) : circleB d ps = circleB c ps := by
 unfold circleB
 rw [show bothP d.R = bothP c.R from funext h.both, show withinB d = withinB c from funext h.within]
theorem Like.svcT (f : ByteArray → Int) (id : Int) : svcT d f id = svcT c f id := by
 unfold Go.Proofs.YtceaeiaoanhlnaaDoor.svcT
 rw [h.hk, h.hw, h.hh]
theorem Like.timeF : ∀ (f : Nat), timeF d f = timeF c f
 | 0 => rfl
 | f + 1 => by
  funext p
  show pathT d (Go.Proofs.YtceaeiaoanhlnaaDoor.timeF d f) p = pathT c (Go.Proofs.YtceaeiaoanhlnaaDoor.timeF c f) p
  rw [Like.timeF f]
  unfold pathT
  rw [h.targS, h.targC, h.ht, show Go.Proofs.YtceaeiaoanhlnaaDoor.svcT d (Go.Proofs.YtceaeiaoanhlnaaDoor.timeF c f) = Go.Proofs.YtceaeiaoanhlnaaDoor.svcT c (Go.Proofs.YtceaeiaoanhlnaaDoor.timeF c f) from funext (h.svcT _)]
theorem Like.time (p : ByteArray) : timeC d p = timeC c p := by
 unfold timeC
 rw [h.hl, h.timeF]
theorem Like.calls (p : ByteArray) (id : Int) : callsN d p id = callsN c p id := by
 unfold callsN
 rw [h.targS, h.targC, h.kids]
end
theorem onR_map {f : RuleD → RuleD} (hf : ∀ r, (f r).path = r.path ∧ (f r).ex = r.ex) (R : List RuleD) (p : ByteArray) : onR (R.map f) p = (onR R p).map f := by
 unfold onR
 rw [List.filter_map]
 congr 1
 refine List.filter_congr fun r _ => ?_
 show onB (bl (f r).path) (f r).ex (bl p) = onB (bl r.path) r.ex (bl p)
 rw [(hf r).1, (hf r).2]
theorem svcsOf_map {f : RuleD → RuleD} (hf : ∀ r, (f r).P = r.P) : ∀ (R : List RuleD), svcsOf (R.map f) = svcsOf R
 | [] => rfl
 | r :: R => by
  have := svcsOf_map hf R
  unfold svcsOf at *
  rw [List.map_cons, List.flatMap_cons, List.flatMap_cons, this, hf r]
theorem copiesOf_map {f : RuleD → RuleD} (hf : ∀ r, (f r).mi = r.mi) : ∀ (R : List RuleD), copiesOf (R.map f) = copiesOf R
 | [] => rfl
 | r :: R => by
  have := copiesOf_map hf R
  unfold copiesOf at *
  rw [List.map_cons, List.filter_cons, List.filter_cons, hf r]
  split
  ·rw [List.map_cons, List.map_cons, this, hf r]
  ·exact this
theorem tick_map {f : RuleD → RuleD} (hf : ∀ r, (f r).de = r.de ∧ (f r).ti = r.ti) : ∀ (R : List RuleD) (n : Int), (R.map f).foldl (fun n r => if 0 < r.de then max n r.ti else n) n = R.foldl (fun n r => if 0 < r.de then max n r.ti else n) n
 | [], _ => rfl
 | r :: R, n => by
  rw [List.map_cons, List.foldl_cons, List.foldl_cons, tick_map hf R, (hf r).1, (hf r).2]
theorem find_map {g : SvcD → SvcD} (hg : ∀ s, (g s).id = s.id) : ∀ (S : List SvcD) (id : Int), findS (S.map g) id = match S.find? (fun s => s.id == id) with | some s => g s | none => svc0
 | [], _ => rfl
 | s :: S, id => by
  have := find_map hg S id
  unfold findS at *
  rw [List.map_cons, List.find?_cons, List.find?_cons, hg s]
  cases hs : s.id == id with
  | true => rfl
  | false => exact this
theorem like_of {c d : ConfD} (f : RuleD → RuleD) (g : SvcD → SvcD) (hR : d.R = c.R.map f) (hS : d.S = c.S.map g) (hf : ∀ r, (f r).path = r.path ∧ (f r).ex = r.ex ∧ (f r).P = r.P ∧ (f r).mi = r.mi ∧ (f r).de = r.de ∧ (f r).ti = r.ti) (hg : ∀ s, (g s).id = s.id ∧ (g s).K = s.K ∧ (g s).work = s.work) (hh : d.hop = c.hop) : Like c d := by
 have ho := onR_map (f := f) (fun r => ⟨(hf r).1, (hf r).2.1⟩)
 refine ⟨fun p => ?_, fun p => ?_, fun p => ?_, fun id => ?_, fun id => ?_, ?_, hh, by rw [hS, List.length_map]⟩
 ·rw [hR, ho, svcsOf_map fun r => (hf r).2.2.1]
 ·rw [hR, ho, copiesOf_map fun r => (hf r).2.2.2.1]
 ·unfold tickD
  rw [hR, ho, tick_map fun r => (hf r).2.2.2.2]
 ·rw [hS, find_map fun s => (hg s).1]
  unfold findS
  cases c.S.find? (fun s => s.id == id) with
  | none => rfl
  | some s => exact (hg s).2.1
 ·rw [hS, find_map fun s => (hg s).1]
  unfold findS
  cases c.S.find? (fun s => s.id == id) with
  | none => rfl
  | some s => exact (hg s).2.2
 ·unfold allK
  rw [hS, List.flatMap_map]
  congr 1
  funext s
  exact (hg s).2.1
theorem like_core (c : ConfD) : Like c c.core := like_of RuleD.core SvcD.core rfl rfl (fun _ => ⟨rfl, rfl, rfl, rfl, rfl, rfl⟩) (fun _ => ⟨rfl, rfl, rfl⟩) rfl
theorem mesh_core (q : Int) (c : ConfD) : (meshC q c).core = meshC q c.core := by
 unfold meshC
 split
 ·rfl
 ·have h1 : (c.R.mapIdx (ruleM q)).map RuleD.core = (c.R.map RuleD.core).mapIdx (ruleM q) := by
   apply List.ext_getElem?
   intro i
   simp only [List.getElem?_map, List.getElem?_mapIdx]
   cases c.R[i]? <;> rfl
  have h2 : (c.S.mapIdx (svcM q)).map SvcD.core = (c.S.map SvcD.core).mapIdx (svcM q) := by
   apply List.ext_getElem?
   intro i
   simp only [List.getElem?_map, List.getElem?_mapIdx]
   cases c.S[i]? with
   | none => rfl
   | some s =>
    show some (svcM q i s).core = some (svcM q i s.core)
    unfold svcM SvcD.core
    simp only [ite_self]
  unfold ConfD.core
  simp only [h1, h2]
/-! ## a time of two hops and three at least -/
/-! ## it is one that chapter 16 takes -/
/-! ## what a mesh of numbers has -/
end Go.Proofs.YtceaeiaoanhlnaaDoor
