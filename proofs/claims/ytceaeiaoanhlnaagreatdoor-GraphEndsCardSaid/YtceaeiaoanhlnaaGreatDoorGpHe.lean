import Derived.Test.YtceaeiaoanhlnaaGreatDoorZgqe
namespace Go.Proofs.YtceaeiaoanhlnaaGreatDoor
open Go.ChangeShapes Go.WideShapes Go.ChangeAt Go.RowKit Go.Lib Go.Shelf
def ruleK (k : Int) (r : RuleD) : RuleD := { r with q0 := r.q0 + k }
def moreC (k : Int) (c : ConfD) : ConfD := { c with life := c.life + k, horizon := c.horizon + k, wait := min (c.wait + k) 50, R := c.R.map (ruleK k) }
/-- of the same ways, times and calls -/
structure Like (c d : ConfD) : Prop where
 hs : ∀ p, svcsOf (onR d.R p) = svcsOf (onR c.R p)
 hc : ∀ p, copiesOf (onR d.R p) = copiesOf (onR c.R p)
 ht : ∀ p, tickD d.R p = tickD c.R p
 hk : ∀ id, (findS d.S id).K = (findS c.S id).K
 hw : ∀ id, (findS d.S id).work = (findS c.S id).work
 ha : allK d = allK c
 hh : d.hop = c.hop
 hl : d.S.length = c.S.length
section
variable {c d : ConfD} (h : Like c d)
include h
theorem Like.targS (p : ByteArray) : targS d.R p = targS c.R p := congrArg Rg.ends (h.hs p)
theorem Like.targC (p : ByteArray) : targC d.R p = targC c.R p := h.hc p
theorem Like.both (p : ByteArray) : bothP d.R p = bothP c.R p := by
 unfold bothP
 rw [h.targS, h.targC]
theorem Like.kids : kidsG d = kidsG c := by
 funext id
 unfold kidsG
 rw [h.hk, show Go.Proofs.YtceaeiaoanhlnaaGreatDoor.targS d.R = Go.Proofs.YtceaeiaoanhlnaaGreatDoor.targS c.R from funext h.targS, show Go.Proofs.YtceaeiaoanhlnaaGreatDoor.targC d.R = Go.Proofs.YtceaeiaoanhlnaaGreatDoor.targC c.R from funext h.targC]
theorem Like.nb : nbP d = nbP c := by
 funext p
 unfold nbP
 rw [h.both, show (fun id => (findS d.S id).K) = fun id => (findS c.S id).K from funext h.hk]
theorem Like.way (ps : List ByteArray) : wayC d ps = wayC c ps := by
 unfold wayC
 rw [h.nb, h.ha]
theorem Like.within (id : Int) : withinB d id = withinB c id := by
 unfold withinB
 rw [h.hk, h.way, show bothP d.R = bothP c.R from funext h.both]
theorem Like.circle (ps : List ByteArray) : circleB d ps = circleB c ps := by
 unfold circleB
 rw [show bothP d.R = bothP c.R from funext h.both, show withinB d = withinB c from funext h.within]
theorem Like.svcT (f : ByteArray → Int) (id : Int) : svcT d f id = svcT c f id := by
 unfold Go.Proofs.YtceaeiaoanhlnaaGreatDoor.svcT
 rw [h.hk, h.hw, h.hh]
theorem Like.timeF : ∀ (f : Nat), timeF d f = timeF c f
 | 0 => rfl
 | f + 1 => by
  funext p
  show pathT d (Go.Proofs.YtceaeiaoanhlnaaGreatDoor.timeF d f) p = pathT c (Go.Proofs.YtceaeiaoanhlnaaGreatDoor.timeF c f) p
  rw [Like.timeF f]
  unfold pathT
  rw [h.targS, h.targC, h.ht, show Go.Proofs.YtceaeiaoanhlnaaGreatDoor.svcT d (Go.Proofs.YtceaeiaoanhlnaaGreatDoor.timeF c f) = Go.Proofs.YtceaeiaoanhlnaaGreatDoor.svcT c (Go.Proofs.YtceaeiaoanhlnaaGreatDoor.timeF c f) from funext (h.svcT _)]
theorem Like.time (p : ByteArray) : timeC d p = timeC c p := by
 unfold timeC
 rw [h.hl, h.timeF]
theorem Like.calls (p : ByteArray) (id : Int) : callsN d p id = callsN c p id := by
 unfold callsN
 rw [h.targS, h.targC, h.kids]
end
theorem onR_map {f : RuleD → RuleD} (hf : ∀ r, (f r).path = r.path ∧ (f r).ex = r.ex) (R : List RuleD) (p : ByteArray) : onR (R.map f) p = (onR R p).map f := by
 unfold onR
 rw [List.filter_map]
 congr 1
 refine List.filter_congr fun r _ => ?_
 show onB (bl (f r).path) (f r).ex (bl p) = onB (bl r.path) r.ex (bl p)
 rw [(hf r).1, (hf r).2]
theorem svcsOf_map {f : RuleD → RuleD} (hf : ∀ r, (f r).P = r.P) : ∀ (R : List RuleD), svcsOf (R.map f) = svcsOf R
 | [] => rfl
 | r :: R => by
  have := svcsOf_map hf R
  unfold svcsOf at *
  rw [List.map_cons, List.flatMap_cons, List.flatMap_cons, this, hf r]
theorem copiesOf_map {f : RuleD → RuleD} (hf : ∀ r, (f r).mi = r.mi) : ∀ (R : List RuleD), copiesOf (R.map f) = copiesOf R
 | [] => rfl
 | r :: R => by
  have := copiesOf_map hf R
  unfold copiesOf at *
  rw [List.map_cons, List.filter_cons, List.filter_cons, hf r]
  split
  ·rw [List.map_cons, List.map_cons, this, hf r]
  ·exact this
theorem tick_map {f : RuleD → RuleD} (hf : ∀ r, (f r).de = r.de ∧ (f r).ti = r.ti) : ∀ (R : List RuleD) (n : Int), (R.map f).foldl (fun n r => if 0 < r.de then max n r.ti else n) n = R.foldl (fun n r => if 0 < r.de then max n r.ti else n) n
 | [], _ => rfl
 | r :: R, n => by
  rw [List.map_cons, List.foldl_cons, List.foldl_cons, tick_map hf R, (hf r).1, (hf r).2]
theorem find_map {g : SvcD → SvcD} (hg : ∀ s, (g s).id = s.id) : ∀ (S : List SvcD) (id : Int), findS (S.map g) id = match S.find? (fun s => s.id == id) with | some s => g s | none => svc0
 | [], _ => rfl
 | s :: S, id => by
  have := find_map hg S id
  unfold findS at *
  rw [List.map_cons, List.find?_cons, List.find?_cons, hg s]
  cases hs : s.id == id with
  | true => rfl
  | false => exact this
theorem like_of {c d : ConfD} (f : RuleD → RuleD) (g : SvcD → SvcD) (hR : d.R = c.R.map f) (hS : d.S = c.S.map g) (hf : ∀ r, (f r).path = r.path ∧ (f r).ex = r.ex ∧ (f r).P = r.P ∧ (f r).mi = r.mi ∧ (f r).de = r.de ∧ (f r).ti = r.ti) (hg : ∀ s, (g s).id = s.id ∧ (g s).K = s.K ∧ (g s).work = s.work) (hh : d.hop = c.hop) : Like c d := by
 have ho := onR_map (f := f) (fun r => ⟨(hf r).1, (hf r).2.1⟩)
 refine ⟨fun p => ?_, fun p => ?_, fun p => ?_, fun id => ?_, fun id => ?_, ?_, hh, by rw [hS, List.length_map]⟩
 ·rw [hR, ho, svcsOf_map fun r => (hf r).2.2.1]
 ·rw [hR, ho, copiesOf_map fun r => (hf r).2.2.2.1]
 ·unfold tickD
  rw [hR, ho, tick_map fun r => (hf r).2.2.2.2]
 ·rw [hS, find_map fun s => (hg s).1]
  unfold findS
  cases c.S.find? (fun s => s.id == id) with
  | none => rfl
  | some s => exact (hg s).2.1
 ·rw [hS, find_map fun s => (hg s).1]
  unfold findS
  cases c.S.find? (fun s => s.id == id) with
  | none => rfl
  | some s => exact (hg s).2.2
 ·unfold allK
  rw [hS, List.flatMap_map]
  congr 1
  funext s
  exact (hg s).2.1
theorem like_more (k : Int) (c : ConfD) : Like c (moreC k c) := like_of (ruleK k) id rfl (by rw [List.map_id]; rfl) (fun _ => ⟨rfl, rfl, rfl, rfl, rfl, rfl⟩) (fun _ => ⟨rfl, rfl, rfl⟩) rfl
theorem like_core (c : ConfD) : Like c c.core := like_of RuleD.core SvcD.core rfl rfl (fun _ => ⟨rfl, rfl, rfl, rfl, rfl, rfl⟩) (fun _ => ⟨rfl, rfl, rfl⟩) rfl
/-- what is alone does not hang on where the lists lie -/
theorem alone_core (c : ConfD) (p : ByteArray) : aloneC c.core p = aloneC c p := by
 have h := like_core c
 have e : ∀ s : SvcD, roomS c.core p s.core = roomS c p s := fun s => by
  unfold roomS
  rw [h.calls]
  rfl
 have hr : roomB c.core p = roomB c p := by
  unfold roomB
  show (c.S.map SvcD.core).all (roomS c.core p) = _
  rw [List.all_map]
  exact congrArg c.S.all (funext e)
 have hp : ∀ t, plainB c.core t = plainB c t := fun t => by
  funext q
  unfold plainB
  rw [h.targS]
  show ((onR (c.R.map RuleD.core) q).all (easyB t) && ((targS c.R q).all (hasEnd c.E) && openB (onR (c.R.map RuleD.core) q))) = _
  rw [onR_map (f := RuleD.core) (fun _ => ⟨rfl, rfl⟩), List.all_map]
  unfold openB
  rw [List.any_map]
  have e1 : (easyB t ∘ RuleD.core) = easyB t := rfl
  have e2 : ((fun r : RuleD => r.H.isEmpty) ∘ RuleD.core) = fun r => r.H.isEmpty := rfl
  rw [e1, e2]
 have hl : c.core.life = c.life := rfl
 unfold aloneC
 rw [h.circle, h.way, h.time, hr, hp, hl]
theorem alone_like {c d : ConfD} (e : d.core = c.core) (p : ByteArray) : aloneC d p = aloneC c p := by
 rw [← alone_core d, e, alone_core]
theorem more_core (k : Int) {c d : ConfD} (e : d.core = c.core) : (moreC k d).core = (moreC k c).core := by
 have e1 : ∀ x : ConfD, (moreC k x).core = moreC k x.core := fun x => by
  have hm : (x.R.map (ruleK k)).map RuleD.core = (x.R.map RuleD.core).map (ruleK k) := by
   rw [List.map_map, List.map_map]
   rfl
  unfold moreC ConfD.core
  simp only [hm]
 rw [e1, e1, e]
theorem mesh_core (q : Int) (c : ConfD) : (meshC q c).core = meshC q c.core := by
 unfold meshC
 split
 ·rfl
 ·have h1 : (c.R.mapIdx (ruleM q)).map RuleD.core = (c.R.map RuleD.core).mapIdx (ruleM q) := by
   apply List.ext_getElem?
   intro i
   simp only [List.getElem?_map, List.getElem?_mapIdx]
   cases c.R[i]? <;> rfl
  have h2 : (c.S.mapIdx (svcM q)).map SvcD.core = (c.S.map SvcD.core).mapIdx (svcM q) := by
   apply List.ext_getElem?
   intro i
   simp only [List.getElem?_map, List.getElem?_mapIdx]
   cases c.S[i]? with
   | none => rfl
   | some s =>
    show some (svcM q i s).core = some (svcM q i s.core)
    unfold svcM SvcD.core
    simp only [ite_self]
  unfold ConfD.core
  simp only [h1, h2]
theorem calls_more (k : Int) (c : ConfD) (p : ByteArray) (id : Int) : callsN (moreC k c) p id = callsN c p id := (like_more k c).calls p id
theorem room_more {k : Int} (hk : 0 ≤ k) {c : ConfD} (h : chkC c = 0) {p : ByteArray} (hr : roomB c p = true) : roomB (moreC k c) p = true := by
 have hn := chk_num h
 unfold roomB at hr ⊢
 rw [List.all_eq_true] at hr ⊢
 intro s hs
 have := hr s hs
 unfold roomS at this ⊢
 rw [calls_more]
 simp only [Bool.and_eq_true, decide_eq_true_eq] at this ⊢
 refine ⟨this.1, ?_⟩
 show callsN c p s.id ≤ c.low + min (c.wait + k) 50
 omega
theorem plain_more {k : Int} (hk : 0 ≤ k) (c : ConfD) (t : Int) {p : ByteArray} (hp : plainB c t p = true) : plainB (moreC k c) t p = true := by
 unfold plainB at hp ⊢
 rw [(like_more k c).targS]
 show ((onR (c.R.map (ruleK k)) p).all (easyB t) && ((targS c.R p).all (hasEnd c.E) && openB (onR (c.R.map (ruleK k)) p))) = true
 rw [onR_map (f := ruleK k) (fun _ => ⟨rfl, rfl⟩)]
 simp only [Bool.and_eq_true, List.all_eq_true] at hp ⊢
 refine ⟨fun x hx => ?_, hp.2.1, ?_⟩
 ·obtain ⟨r, hr, rfl⟩ := List.mem_map.1 hx
  have := hp.1 r hr
  unfold easyB at this ⊢
  simp only [Bool.and_eq_true, decide_eq_true_eq] at this ⊢
  exact ⟨this.1, show t ≤ r.q0 + k by omega⟩
 ·have := hp.2.2
  unfold openB at this ⊢
  obtain ⟨r, hr, he⟩ := List.any_eq_true.1 this
  exact List.any_eq_true.2 ⟨ruleK k r, List.mem_map.2 ⟨r, hr, rfl⟩, he⟩
/-! ## a time of two hops and three at least -/
theorem foldl_sum_ge {α : Type} (g : α → Int) (hg : ∀ x, 0 ≤ g x) : ∀ (l : List α) (n : Int), n ≤ mostN → n ≤ l.foldl (fun n x => sumM n (g x)) n
 | [], n, _ => Int.le_refl n
 | x :: l, n, h => Int.le_trans (show n ≤ sumM n (g x) by have := hg x; unfold sumM; omega) (foldl_sum_ge g hg l _ (by unfold sumM; omega))
theorem foldl_max_ge {α : Type} (g : α → Int) : ∀ (l : List α) (n : Int), n ≤ l.foldl (fun n x => max n (g x)) n
 | [], n => Int.le_refl n
 | x :: l, n => Int.le_trans (show n ≤ max n (g x) by omega) (foldl_max_ge g l _)
theorem foldl_max_mem {α : Type} (g : α → Int) : ∀ (l : List α) (n : Int), ∀ x ∈ l, g x ≤ l.foldl (fun n x => max n (g x)) n
 | [], _, x, hx => by cases hx
 | y :: l, n, x, hx => by
  rcases List.mem_cons.1 hx with rfl | hx
  ·exact Int.le_trans (show g x ≤ max n (g x) by omega) (foldl_max_ge g l _)
  ·exact foldl_max_mem g l _ x hx
theorem checkGo_w : ∀ (l : List (Int × Int)) (seen : List Int), Sp.checkGo l seen = 0 → ∀ q ∈ l, 0 ≤ q.2
 | [], _, _, q, hq => by cases hq
 | p :: l, seen, h, q, hq => by
  unfold Sp.checkGo at h
  split at h
  ·cases h
  ·split at h
   ·cases h
   ·rename_i hp
    rcases List.mem_cons.1 hq with rfl | hq
    ·omega
    ·exact checkGo_w l _ h q hq
theorem sumW_pos : ∀ (l : List (Int × Int)), Sp.sumW l ≠ 0 → ∃ q ∈ l, q.2 ≠ 0
 | [], h => absurd rfl h
 | p :: l, h => by
  by_cases hp : p.2 = 0
  ·have : Sp.sumW l ≠ 0 := fun e => h (by
    unfold Sp.sumW at e ⊢
    rw [List.map_cons, List.sum_cons, e, hp]
    rfl)
   obtain ⟨q, hq, hn⟩ := sumW_pos l this
   exact ⟨q, List.mem_cons_of_mem _ hq, hn⟩
  ·exact ⟨p, List.mem_cons_self .., hp⟩
/-- a rule has a part of some weight -/
theorem rule_part {c : ConfD} (h : chkC c = 0) {r : RuleD} (hr : r ∈ c.R) : ∃ q ∈ r.P, 0 < q.2 := by
 have h1 := chk_rule h hr
 unfold rchk at h1
 have hp : Sp.check r.P = 0 := by
  split at h1
  ·rename_i hm
   exact absurd h1 hm
  ·split at h1
   ·rename_i hm
    exact absurd h1 hm
   ·rename_i hm
    exact Classical.not_not.1 hm
 unfold Sp.check at hp
 split at hp
 ·rename_i hm
  exact absurd hp hm
 ·rename_i hm
  split at hp
  ·cases hp
  ·rename_i hs
   obtain ⟨q, hq, hn⟩ := sumW_pos _ hs
   have := checkGo_w _ _ (Classical.not_not.1 hm) q hq
   exact ⟨q, hq, by omega⟩
theorem time_least {w : World} {c : ConfD} (hg : GC w c) {p : ByteArray} (ho : openB (onR c.R p) = true) : 2 * c.hop + 3 ≤ timeC c p := by
 obtain ⟨r, hr, -⟩ := List.any_eq_true.1 ho
 obtain ⟨q, hq, hw⟩ := rule_part hg.chk (List.mem_filter.1 hr).1
 have hs : q.1 ∈ targS c.R p := by
  unfold targS
  rw [Rg.ends_mem]
  exact List.mem_flatMap.2 ⟨r, hr, List.mem_map.2 ⟨q, List.mem_filter.2 ⟨hq, by simpa using hw⟩, rfl⟩⟩
 obtain ⟨h1, h2⟩ := findS_there (lead_there (chk_lead hg.chk) (show q.1 ∈ bothP c.R p from List.mem_append_left _ hs))
 have h3 := (chk_svc hg.chk h1).2.2.1
 have hn := chk_num hg.chk
 have hf := fun (x : ByteArray) => (timeF_bd hg.chk hg.fit c.S.length x).1
 have h4 : 2 * c.hop + (findS c.S q.1).work + 2 ≤ svcT c (timeF c c.S.length) q.1 := foldl_sum_ge (timeF c c.S.length) hf _ _ (by unfold mostN; omega)
 have h5 := foldl_max_mem (svcT c (timeF c c.S.length)) (targS c.R p) 0 q.1 hs
 have h6 : (targS c.R p).foldl (fun n id => max n (svcT c (timeF c c.S.length) id)) 0 ≤ mostN := great_le_of (f := svcT c (timeF c c.S.length)) _ 0 (by decide) fun x _ => (svcT_bd hg.chk _ hf x).2
 have h7 := foldl_sum_ge (svcT c (timeF c c.S.length)) (fun x => (svcT_bd hg.chk _ hf x).1) (targC c.R p) _ h6
 have h8 := (tick_bd hg.chk hg.fit p).1
 show 2 * c.hop + 3 ≤ sumM ((targC c.R p).foldl (fun n id => sumM n (svcT c (timeF c c.S.length) id)) ((targS c.R p).foldl (fun n id => max n (svcT c (timeF c c.S.length) id)) 0)) (tickD c.R p)
 generalize (targC c.R p).foldl (fun n id => sumM n (svcT c (timeF c c.S.length) id)) ((targS c.R p).foldl (fun n id => max n (svcT c (timeF c c.S.length) id)) 0) = z at *
 unfold sumM mostN
 omega
theorem way_self (c : ConfD) (p : ByteArray) : p ∈ wayC c [p] := (wayC_mem c [p] p).2 ⟨p, List.mem_singleton.2 rfl, .refl p⟩
/-- what is alone, and what is not -/
theorem ends_plain {w : World} {c : ConfD} (hg : GC w c) {k : Int} (hk : 0 ≤ k) (p : ByteArray) :
  ((aloneC c p).2 = true ∧ 2 * c.hop + 3 ≤ (aloneC c p).1 ∧ (aloneC c p).1 ≤ c.life ∧ aloneC (moreC k c) p = aloneC c p) ∨ ((aloneC c p).2 = false ∧ (aloneC c p).1 = 0) := by
 by_cases h1 : circleB c (wayC c [p]) = true
 ·right
  unfold aloneC
  rw [if_pos h1]
  exact ⟨rfl, rfl⟩
 by_cases h2 : c.life < timeC c p
 ·right
  unfold aloneC
  rw [if_neg h1, if_pos h2]
  exact ⟨rfl, rfl⟩
 by_cases h3 : roomB c p = false
 ·right
  unfold aloneC
  rw [if_neg h1, if_neg h2, if_pos h3]
  exact ⟨rfl, rfl⟩
 by_cases h4 : (wayC c [p]).all (plainB c (timeC c p)) = true
 ·left
  have e : aloneC c p = (timeC c p, true) := by
   unfold aloneC
   rw [if_neg h1, if_neg h2, if_neg h3, if_pos h4]
  have ho : openB (onR c.R p) = true := by
   have := List.all_eq_true.1 h4 p (way_self c p)
   unfold plainB at this
   simp only [Bool.and_eq_true] at this
   exact this.2.2
  rw [e]
  refine ⟨rfl, time_least hg ho, by show timeC c p ≤ c.life; omega, ?_⟩
  unfold aloneC
  rw [(like_more k c).way, (like_more k c).circle, if_neg h1, (like_more k c).time, if_neg (show ¬ (moreC k c).life < timeC c p by show ¬ c.life + k < timeC c p; omega),
   if_neg (by rw [room_more hk hg.chk (by simpa using h3)]; decide), if_pos (by
    rw [List.all_eq_true] at h4 ⊢
    exact fun q hq => plain_more hk c _ (h4 q hq))]
 ·right
  unfold aloneC
  rw [if_neg h1, if_neg h2, if_neg h3, if_neg h4]
  exact ⟨rfl, rfl⟩
/-! ## it is one that chapter 16 takes -/
theorem rchk_more {r : RuleD} {k rates : Int} (hk : 0 ≤ k) (hq : r.q0 + k ≤ 10000) (h : rchk r rates = 0) : rchk (ruleK k r) rates = 0 := by
 have hp2 : polB r.q0 r.q1 r.q2 r.q3 r.q4 r.q5 r.q6 ≠ false → polB (ruleK k r).q0 r.q1 r.q2 r.q3 r.q4 r.q5 r.q6 ≠ false := by
  unfold polB
  intro h
  simp only [ne_eq, Bool.not_eq_false, Bool.and_eq_true, Bool.not_eq_true'] at h ⊢
  obtain ⟨⟨⟨⟨⟨⟨b1, b2⟩, b3⟩, b4⟩, b5⟩, b6⟩, b7⟩ := h
  refine ⟨⟨⟨⟨⟨⟨outB_in ?_, b2⟩, b3⟩, b4⟩, b5⟩, b6⟩, b7⟩
  unfold outB at b1
  simp only [Bool.or_eq_false_iff, decide_eq_false_iff_not] at b1
  show 1 ≤ r.q0 + k ∧ r.q0 + k ≤ 10000
  omega
 unfold rchk at h ⊢
 show (if mchk (bl r.path) r.H ≠ 0 then mchk (bl r.path) r.H else if Sp.check r.P ≠ 0 then Sp.check r.P else if outB 0 10 r.mi = true then 13 else
  if injB r.ab r.de r.ti = true then 16 else if wrchk r.pre r.S r.D ≠ 0 then wrchk r.pre r.S r.D else if polB (ruleK k r).q0 r.q1 r.q2 r.q3 r.q4 r.q5 r.q6 = false then 16 else
  if outB 0 rates r.rate = true then 15 else 0) = 0
 generalize mchk (bl r.path) r.H = x1 at *
 generalize Sp.check r.P = x2 at *
 generalize wrchk r.pre r.S r.D = x3 at *
 by_cases g1 : x1 ≠ 0
 ·rw [if_pos g1] at h; exact absurd h g1
 rw [if_neg g1] at h ⊢
 by_cases g2 : x2 ≠ 0
 ·rw [if_pos g2] at h; exact absurd h g2
 rw [if_neg g2] at h ⊢
 by_cases g3 : outB 0 10 r.mi = true
 ·rw [if_pos g3] at h; exact absurd h (by decide)
 rw [if_neg g3] at h ⊢
 by_cases g4 : injB r.ab r.de r.ti = true
 ·rw [if_pos g4] at h; exact absurd h (by decide)
 rw [if_neg g4] at h ⊢
 by_cases g5 : x3 ≠ 0
 ·rw [if_pos g5] at h; exact absurd h g5
 rw [if_neg g5] at h ⊢
 by_cases g6 : polB r.q0 r.q1 r.q2 r.q3 r.q4 r.q5 r.q6 = false
 ·rw [if_pos g6] at h; exact absurd h (by decide)
 rw [if_neg g6] at h
 rw [if_neg (hp2 g6)]
 exact h
theorem more_right {c : ConfD} {k : Int} (hk : 0 ≤ k) (h : chkC c = 0) (hq : ∀ r ∈ c.R, r.q0 + k ≤ 10000) (hl : c.life + k ≤ 10000) (hh : c.horizon + k ≤ 40000) : chkC (moreC k c) = 0 := by
 obtain ⟨h1, h2, h3, h4, h5, h6, h7⟩ := chkC_ends h
 have h8 : ¬ c.T.all rateB = false ∧ ¬ watchB c = false ∧ ¬ numB c = false := by
  unfold chkC at h
  rw [if_neg (by omega), if_neg (by rw [h4]; decide), if_neg (by rw [h5]; decide), if_neg (by omega), if_neg (by rw [h7]; decide)] at h
  split at h
  ·cases h
  ·split at h
   ·cases h
   ·split at h
    ·cases h
    ·exact ⟨by assumption, by assumption, by assumption⟩
 have e3 : nerr (c.R.map (ruleK k)) c.T.length = 0 := by
  obtain ⟨k1, k2⟩ := nerr_zero h6
  refine nerr_all _ _ (by simp; omega) fun x hx => ?_
  obtain ⟨r, hr, rfl⟩ := List.mem_map.1 hx
  exact rchk_more hk (hq r hr) (k2 r hr)
 have e4 : (c.R.map (ruleK k)).all (leadB c.S) = true := by
  rw [List.all_eq_true] at h7 ⊢
  intro x hx
  obtain ⟨r, hr, rfl⟩ := List.mem_map.1 hx
  exact h7 r hr
 have e5 : numB (moreC k c) = true := by
  have := h8.2.2
  unfold numB inB at this ⊢
  show (decide (0 ≤ c.panic) && decide (c.panic ≤ 100) && (decide (1 ≤ c.low) && decide (c.low ≤ c.high)) && decide (c.high ≤ 100) && (decide (0 ≤ min (c.wait + k) 50) && decide (min (c.wait + k) 50 ≤ 50)) && (decide (1 ≤ c.hop) && decide (c.hop ≤ 100)) && (decide (1 ≤ c.life + k) && decide (c.life + k ≤ 10000)) && (decide (0 ≤ c.purse) && decide (c.purse ≤ 64)) && (decide (c.life + k ≤ c.horizon + k) && decide (c.horizon + k ≤ 40000)) && (decide (0 ≤ c.sample) && decide (c.sample ≤ 100))) = true
  simp only [Bool.not_eq_false, Bool.and_eq_true, decide_eq_true_eq] at this ⊢
  omega
 unfold chkC
 show (if 10 < c.S.length ∨ 40 < c.E.length ∨ 4 < c.T.length then 2 else if allAt svcB [] c.S = false then 13 else if allAt (fun a e => endB a c.S e) [] c.E = false then 14 else if nerr (c.R.map (ruleK k)) c.T.length ≠ 0 then nerr (c.R.map (ruleK k)) c.T.length else if (c.R.map (ruleK k)).all (leadB c.S) = false then 13 else if c.T.all rateB = false then 15 else if watchB c = false then 8 else if numB (moreC k c) = false then 8 else 0) = 0
 rw [if_neg (by omega), if_neg (by rw [h4]; decide), if_neg (by rw [h5]; decide), if_neg (by omega), if_neg (by rw [e4]; decide), if_neg h8.1, if_neg h8.2.1, if_neg (by rw [e5]; decide)]
theorem more_fit {c : ConfD} (k : Int) (h : ConfFit c) : ConfFit (moreC k c) := by
 obtain ⟨h1, h2, h3, h4, h5, h6, h7⟩ := h
 refine ⟨h1, h2, fun r hr => ?_, h4, h5, by simpa [moreC] using h6, h7⟩
 obtain ⟨x, hx, rfl⟩ := List.mem_map.1 hr
 exact h3 x hx
/-! ## what a mesh of numbers has -/
theorem mesh_q0 {L : List Int} {c0 : ConfD} (h : c0.core = genC L) (q : Int) : (∀ r ∈ (meshC q c0).R, 5 ≤ r.q0 ∧ r.q0 ≤ 200) ∧ (60 ≤ (meshC q c0).life ∧ (meshC q c0).life ≤ 260) ∧ (0 ≤ (meshC q c0).horizon ∧ (meshC q c0).horizon ≤ 600) := by
 have hR : ∀ r ∈ c0.R, 5 ≤ r.q0 ∧ r.q0 ≤ 64 := fun r hr => by
  have hm : r.core ∈ (genC L).R := by
   rw [← h]
   exact List.mem_map.2 ⟨r, hr, rfl⟩
  have e : r.core.q0 = r.q0 := rfl
  rw [← e]
  rcases genC_rule hm with ⟨Q, n, -, hx⟩ | hx
  ·rw [hx]
   show 5 ≤ (genR Q).q0 ∧ (genR Q).q0 ≤ 64
   rw [genR_q0]
   omega
  ·rw [hx]
   show (5 : Int) ≤ 30 ∧ (30 : Int) ≤ 64
   omega
 have hl : c0.R.length ≤ 5 := by
  have e : c0.core.R.length = c0.R.length := List.length_map _
  rw [← e, h, genC_R, List.length_append, rulesC_len]
  have := numR_le L
  simp
  omega
 have el : c0.life = 60 + (pk L 0 : Int) / 3456 % 200 := congrArg ConfD.life h
 have eh : c0.horizon = 60 + (pk L 0 : Int) / 3456 % 200 + (pk L 1 : Int) / 28 % 300 := congrArg ConfD.horizon h
 unfold meshC
 split
 ·exact ⟨fun r hr => by have := hR r hr; omega, by omega, by omega⟩
 ·refine ⟨fun r hr => ?_, by show 60 ≤ c0.life ∧ c0.life ≤ 260; omega, by show 0 ≤ c0.horizon ∧ c0.horizon ≤ 600; omega⟩
  obtain ⟨i, hi, rfl⟩ := List.mem_mapIdx.1 hr
  show 5 ≤ (if q = 3 then 18 + 7 * (i : Int) else 90) ∧ (if q = 3 then 18 + 7 * (i : Int) else 90) ≤ 200
  split <;> omega
end Go.Proofs.YtceaeiaoanhlnaaGreatDoor
