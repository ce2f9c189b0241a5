/- Merged texts (SnM, GpC, GpF, GpG). -/
import Derived.Test.YtceaeiaoanhlnaaGreatDoorZxe
import Derived.Test.YtceaeiaoanhlnaaGreatDoorZcbe
import Derived.Test.YtceaeiaoanhlnaaGreatDoorZgbe
namespace Go.Proofs.YtceaeiaoanhlnaaGreatDoor
open Go.ChangeShapes Go.WideShapes Go.ChangeAt Go.RowKit Go.Lib Go.Shelf
theorem thereB_core (S : List SvcD) (id : Int) : thereB (S.map SvcD.core) id = thereB S id := by
 unfold thereB
 rw [List.any_map]
 rfl
theorem svcB_core (A : List SvcD) (s : SvcD) : svcB (A.map SvcD.core) s.core = svcB A s := by
 have h := thereB_core A s.id
 unfold svcB
 show (inB 1 10 s.id && !thereB (A.map SvcD.core) s.id && _ && _ && _ && _ && _ && _ && _) = _
 rw [h]
 rfl
theorem allAt_map {α β : Type} (f : List β → β → Bool) (g : List α → α → Bool) (m : α → β) (h : ∀ A s, f (A.map m) (m s) = g A s) : ∀ (L A : List α), allAt f (A.map m) (L.map m) = allAt g A L
 | [], _ => rfl
 | x :: L, A => by
  show (f (A.map m) (m x) && allAt f (A.map m ++ [m x]) (L.map m)) = (g A x && allAt g (A ++ [x]) L)
  rw [h, ← allAt_map f g m h L (A ++ [x]), List.map_append]
  rfl
theorem nerr_coreC (R : List RuleD) (n : Int) : nerr (R.map RuleD.core) n = nerr R n := by
 unfold nerr
 rw [List.length_map, List.map_map]
 rfl
theorem lead_core (S : List SvcD) (r : RuleD) : leadB (S.map SvcD.core) r.core = leadB S r := by
 unfold leadB
 show ((r.P.all fun p => thereB (S.map SvcD.core) p.1) && (r.mi == 0 || thereB (S.map SvcD.core) r.mi)) = _
 rw [thereB_core]
 simp only [thereB_core]
theorem chkC_core (c : ConfD) : chkC c.core = chkC c := by
 have h1 : allAt svcB [] (c.S.map SvcD.core) = allAt svcB [] c.S := allAt_map svcB svcB SvcD.core svcB_core c.S []
 have h2 : allAt (fun a e => endB a (c.S.map SvcD.core) e) [] c.E = allAt (fun a e => endB a c.S e) [] c.E := by
  congr 1
  funext a e
  unfold endB
  rw [thereB_core]
 have h3 : (c.R.map RuleD.core).all (leadB (c.S.map SvcD.core)) = c.R.all (leadB c.S) := by
  rw [List.all_map]
  congr 1
  funext r
  exact lead_core c.S r
 unfold chkC
 show (if 10 < (c.S.map SvcD.core).length ∨ 40 < c.E.length ∨ 4 < c.T.length then 2 else if allAt svcB [] (c.S.map SvcD.core) = false then 13 else if allAt (fun a e => endB a (c.S.map SvcD.core) e) [] c.E = false then 14 else if nerr (c.R.map RuleD.core) c.T.length ≠ 0 then nerr (c.R.map RuleD.core) c.T.length else if (c.R.map RuleD.core).all (leadB (c.S.map SvcD.core)) = false then 13 else if c.T.all rateB = false then 15 else if watchB c.core = false then 8 else if numB c.core = false then 8 else 0) = _
 rw [h1, h2, h3, nerr_coreC, List.length_map]
 rfl
theorem nerr_zero {R : List RuleD} {n : Int} (h : nerr R n = 0) : R.length ≤ 20 ∧ ∀ r ∈ R, rchk r n = 0 := by
 unfold nerr at h
 split at h
 ·cases h
 ·rename_i h20
  refine ⟨by omega, fun r hr => ?_⟩
  cases hf : (R.map (rchk · n)).find? (· != 0) with
  | none =>
   have := List.find?_eq_none.1 hf (rchk r n) (List.mem_map.2 ⟨r, hr, rfl⟩)
   simpa using this
  | some z =>
   rw [hf] at h
   have h0 : z = 0 := h
   have := List.find?_some hf
   rw [h0] at this
   cases this
theorem fit_core {c : ConfD} (h : ConfFit c.core) : ConfFit c := by
 obtain ⟨h1, h2, h3, h4, h5, h6, h7⟩ := h
 refine ⟨fun s hs => ?_, h2, fun r hr => ?_, ?_, h5, ?_, h7⟩
 ·have := h1 s.core (List.mem_map.2 ⟨s, hs, rfl⟩)
  exact this
 ·have := h3 r.core (List.mem_map.2 ⟨r, hr, rfl⟩)
  exact this
 ·have : (c.S.map SvcD.core).length ≤ 1000 := h4
  simpa using this
 ·have : (c.R.map RuleD.core).length ≤ 1000 := h6
  simpa using this
theorem good_conf {c : ConfD} {L : List Int} (h : c.core = genC L) : ConfFit c ∧ chkC c = 0 ∧ c.E.length ≤ 10 := by
 refine ⟨fit_core (h ▸ genC_fit L), by rw [← chkC_core, h, genC_right], ?_⟩
 have e : c.E = (genC L).E := by
  have : c.core.E = (genC L).E := by rw [h]
  exact this
 rw [e]
 have hm := svcsM_bd L
 show (endsA L (svcsM L) ++ endsZ L (svcsM L) (endsM L)).length ≤ 10
 rw [List.length_append, endsA_len, endsZ_len]
 unfold endsM
 omega
end Go.Proofs.YtceaeiaoanhlnaaGreatDoor
namespace Go.Proofs.YtceaeiaoanhlnaaGreatDoor
open Go.ChangeShapes Go.WideShapes Go.ChangeAt Go.RowKit Go.Lib Go.Shelf
def ruleM (q : Int) (i : Nat) (r : RuleD) : RuleD := { r with ab := 0, rate := 0, q0 := if q = 3 then 18 + 7 * (i : Int) else 90 }
def svcM (q : Int) (i : Nat) (s : SvcD) : SvcD := { s with queue := 6, kv := if 1 < q ∧ i % 2 = 1 then .slice none 0 0 else s.kv, K := if 1 < q ∧ i % 2 = 1 then [] else s.K }
def meshC (q : Int) (c : ConfD) : ConfD := if q = 0 then c else { c with R := c.R.mapIdx (ruleM q), S := c.S.mapIdx (svcM q), low := 3, high := 9, wait := 4 }
theorem there_svcM (q : Int) (S : List SvcD) (id : Int) : thereB (S.mapIdx (svcM q)) id = thereB S id := by
 unfold thereB
 rw [Bool.eq_iff_iff, List.any_eq_true, List.any_eq_true]
 constructor
 ·rintro ⟨x, hx, he⟩
  obtain ⟨i, hi, rfl⟩ := List.mem_mapIdx.1 hx
  exact ⟨S[i], List.getElem_mem hi, he⟩
 ·rintro ⟨x, hx, he⟩
  obtain ⟨i, hi, rfl⟩ := List.getElem_of_mem hx
  exact ⟨svcM q i S[i], List.mem_mapIdx.2 ⟨i, hi, rfl⟩, he⟩
theorem mapIdx_take {α β : Type} (f : Nat → α → β) (l : List α) (k : Nat) : (l.mapIdx f).take k = (l.take k).mapIdx f := by
 apply List.ext_getElem?
 intro i
 simp only [List.getElem?_take, List.getElem?_mapIdx]
 split <;> rfl
theorem meshC_right {c : ConfD} (q : Int) (h : chkC c = 0) : chkC (meshC q c) = 0 := by
 unfold meshC
 split
 ·exact h
 obtain ⟨h1, h2, h3, h4, h5, h6, h7⟩ := chkC_ends h
 have h8 : ¬ c.T.all rateB = false ∧ ¬ watchB c = false ∧ ¬ numB c = false := by
  unfold chkC at h
  rw [if_neg (by omega), if_neg (by rw [h4]; decide), if_neg (by rw [h5]; decide), if_neg (by omega), if_neg (by rw [h7]; decide)] at h
  split at h
  ·cases h
  ·split at h
   ·cases h
   ·split at h
    ·cases h
    ·exact ⟨by assumption, by assumption, by assumption⟩
 have e1 : allAt svcB [] (c.S.mapIdx (svcM q)) = true := by
  rw [allAt_spec] at h4 ⊢
  intro k hk
  have hk' : k < c.S.length := by simpa using hk
  have := h4 k hk'
  rw [List.nil_append] at this ⊢
  rw [mapIdx_take, List.getElem_mapIdx]
  unfold svcB at this ⊢
  rw [there_svcM]
  simp only [Bool.and_eq_true] at this ⊢
  obtain ⟨⟨⟨⟨⟨⟨⟨⟨a1, a2⟩, a3⟩, a4⟩, a5⟩, a6⟩, -⟩, a8⟩, a9⟩ := this
  refine ⟨⟨⟨⟨⟨⟨⟨⟨a1, a2⟩, ?_⟩, ?_⟩, a5⟩, a6⟩, inB_in (by show 1 ≤ (6 : Int) ∧ (6 : Int) ≤ 50; omega)⟩, a8⟩, a9⟩
  ·unfold svcM
   simp only
   split
   ·simp
   ·exact a3
  ·unfold svcM
   simp only
   split
   ·simp
   ·exact a4
 have e2 : allAt (fun a e => endB a (c.S.mapIdx (svcM q)) e) [] c.E = true := by
  rw [allAt_spec] at h5 ⊢
  intro k hk
  have := h5 k hk
  simp only [endB, there_svcM] at this ⊢
  exact this
 have e3 : nerr (c.R.mapIdx (ruleM q)) c.T.length = 0 := by
  obtain ⟨k1, k2⟩ := nerr_zero h6
  refine nerr_all _ _ (by simp; omega) fun x hx => ?_
  obtain ⟨i, hi, rfl⟩ := List.mem_mapIdx.1 hx
  have := k2 _ (List.getElem_mem hi)
  generalize c.R[i] = r at this ⊢
  unfold rchk at this ⊢
  have hra : outB 0 (c.T.length : Int) (ruleM q i r).rate = false := outB_in (by show (0 : Int) ≤ 0 ∧ (0 : Int) ≤ _; omega)
  show (if mchk (bl r.path) r.H ≠ 0 then mchk (bl r.path) r.H else if Sp.check r.P ≠ 0 then Sp.check r.P else if outB 0 10 r.mi = true then 13 else
   if injB 0 r.de r.ti = true then 16 else if wrchk r.pre r.S r.D ≠ 0 then wrchk r.pre r.S r.D else if polB (ruleM q i r).q0 r.q1 r.q2 r.q3 r.q4 r.q5 r.q6 = false then 16 else
   if outB 0 (c.T.length : Int) (ruleM q i r).rate = true then 15 else 0) = 0
  rw [hra]
  have hq : outB 1 10000 (ruleM q i r).q0 = false := outB_in (by show 1 ≤ (if q = 3 then 18 + 7 * (i : Int) else 90) ∧ (if q = 3 then 18 + 7 * (i : Int) else 90) ≤ 10000; split <;> omega)
  have hi2 : injB r.ab r.de r.ti = false → injB 0 r.de r.ti = false := by
   unfold injB
   rw [outB_in (lo := 0) (hi := 10000) (n := 0) (by omega)]
   intro h
   simp only [Bool.or_eq_false_iff] at h ⊢
   exact ⟨⟨trivial, h.1.2⟩, h.2⟩
  have hp2 : polB r.q0 r.q1 r.q2 r.q3 r.q4 r.q5 r.q6 ≠ false → polB (ruleM q i r).q0 r.q1 r.q2 r.q3 r.q4 r.q5 r.q6 ≠ false := by
   unfold polB
   rw [hq]
   intro h
   simp only [ne_eq, Bool.not_eq_false, Bool.and_eq_true] at h ⊢
   obtain ⟨⟨⟨⟨⟨⟨-, b2⟩, b3⟩, b4⟩, b5⟩, b6⟩, b7⟩ := h
   exact ⟨⟨⟨⟨⟨⟨rfl, b2⟩, b3⟩, b4⟩, b5⟩, b6⟩, b7⟩
  generalize mchk (bl r.path) r.H = x1 at *
  generalize Sp.check r.P = x2 at *
  generalize wrchk r.pre r.S r.D = x3 at *
  by_cases g1 : x1 ≠ 0
  ·rw [if_pos g1] at this; exact absurd this g1
  rw [if_neg g1] at this ⊢
  by_cases g2 : x2 ≠ 0
  ·rw [if_pos g2] at this; exact absurd this g2
  rw [if_neg g2] at this ⊢
  by_cases g3 : outB 0 10 r.mi = true
  ·rw [if_pos g3] at this; exact absurd this (by decide)
  rw [if_neg g3] at this ⊢
  by_cases g4 : injB r.ab r.de r.ti = true
  ·rw [if_pos g4] at this; exact absurd this (by decide)
  rw [if_neg g4] at this
  rw [if_neg (by rw [hi2 (by simpa using g4)]; decide)]
  by_cases g5 : x3 ≠ 0
  ·rw [if_pos g5] at this; exact absurd this g5
  rw [if_neg g5] at this ⊢
  by_cases g6 : polB r.q0 r.q1 r.q2 r.q3 r.q4 r.q5 r.q6 = false
  ·rw [if_pos g6] at this; exact absurd this (by decide)
  rw [if_neg (hp2 g6)]
  rfl
 have e4 : (c.R.mapIdx (ruleM q)).all (leadB (c.S.mapIdx (svcM q))) = true := by
  rw [List.all_eq_true] at h7 ⊢
  intro x hx
  obtain ⟨i, hi, rfl⟩ := List.mem_mapIdx.1 hx
  have := h7 _ (List.getElem_mem hi)
  unfold leadB at this ⊢
  simp only [there_svcM]
  exact this
 have e5 : numB { c with R := c.R.mapIdx (ruleM q), S := c.S.mapIdx (svcM q), low := 3, high := 9, wait := 4 } = true := by
  have := h8.2.2
  unfold numB at this ⊢
  simp only [Bool.not_eq_false, Bool.and_eq_true] at this ⊢
  obtain ⟨⟨⟨⟨⟨⟨⟨⟨b1, -⟩, -⟩, -⟩, b5⟩, b6⟩, b7⟩, b8⟩, b9⟩ := this
  exact ⟨⟨⟨⟨⟨⟨⟨⟨b1, rfl⟩, rfl⟩, rfl⟩, b5⟩, b6⟩, b7⟩, b8⟩, b9⟩
 unfold chkC
 show (if 10 < (c.S.mapIdx (svcM q)).length ∨ 40 < c.E.length ∨ 4 < c.T.length then 2 else if allAt svcB [] (c.S.mapIdx (svcM q)) = false then 13 else if allAt (fun a e => endB a (c.S.mapIdx (svcM q)) e) [] c.E = false then 14 else if nerr (c.R.mapIdx (ruleM q)) c.T.length ≠ 0 then nerr (c.R.mapIdx (ruleM q)) c.T.length else if (c.R.mapIdx (ruleM q)).all (leadB (c.S.mapIdx (svcM q))) = false then 13 else if c.T.all rateB = false then 15 else if watchB c = false then 8 else if numB { c with R := c.R.mapIdx (ruleM q), S := c.S.mapIdx (svcM q), low := 3, high := 9, wait := 4 } = false then 8 else 0) = 0
 rw [if_neg (by rw [List.length_mapIdx]; omega), if_neg (by rw [e1]; decide), if_neg (by rw [e2]; decide), if_neg (by omega), if_neg (by rw [e4]; decide), if_neg h8.1, if_neg h8.2.1, if_neg (by rw [e5]; decide)]
theorem meshC_fit {c : ConfD} (q : Int) (hr : c.R.length ≤ 20) (h : ConfFit c) : ConfFit (meshC q c) := by
 unfold meshC
 split
 ·exact h
 obtain ⟨h1, h2, h3, h4, h5, h6, h7⟩ := h
 refine ⟨fun s hs => ?_, h2, fun r hr => ?_, by simpa using h4, h5, by simpa using h6, h7⟩
 ·obtain ⟨i, hi, rfl⟩ := List.mem_mapIdx.1 hs
  obtain ⟨k1, k2, k3, k4, k5, k6, k7⟩ := h1 _ (List.getElem_mem hi)
  refine ⟨k1, k2, k3, (show I64 6 by unfold I64; omega), k5, k6, fun p hp => ?_⟩
  unfold svcM at hp
  simp only at hp
  split at hp
  ·cases hp
  ·exact k7 p hp
 ·obtain ⟨i, hi, rfl⟩ := List.mem_mapIdx.1 hr
  have := h3 c.R[i] (List.getElem_mem hi)
  exact this
end Go.Proofs.YtceaeiaoanhlnaaGreatDoor
namespace Go.Proofs.YtceaeiaoanhlnaaGreatDoor
open Go.ChangeShapes Go.WideShapes Go.ChangeAt Go.RowKit Go.Lib Go.Shelf
theorem findS_there {S : List SvcD} {id : Int} (h : thereB S id = true) : findS S id ∈ S ∧ (findS S id).id = id := by
 unfold thereB at h
 obtain ⟨s, hs, he⟩ := List.any_eq_true.1 h
 unfold findS
 cases hf : S.find? (fun s => s.id == id) with
 | none => exact absurd he (by simpa using List.find?_eq_none.1 hf s hs)
 | some x => exact ⟨List.mem_of_find?_eq_some hf, by simpa using List.find?_some hf⟩
theorem findS_not {S : List SvcD} {id : Int} (h : thereB S id = false) : findS S id = svc0 := by
 unfold findS
 rw [show S.find? (fun s => s.id == id) = none from List.find?_eq_none.2 fun s hs he => by
  have : thereB S id = true := List.any_eq_true.2 ⟨s, hs, he⟩
  rw [h] at this
  cases this]
 rfl
theorem kidsG_not {c : ConfD} {id : Int} (h : thereB c.S id = false) : kidsG c id = [] := by
 unfold kidsG
 rw [findS_not h]
 rfl
/-- whom one may call is there -/
theorem lead_there {c : ConfD} (h : c.R.all (leadB c.S) = true) {p : ByteArray} {x : Int} (hx : x ∈ bothP c.R p) : thereB c.S x = true := by
 unfold bothP at hx
 rw [List.all_eq_true] at h
 rcases List.mem_append.1 hx with hx | hx
 ·unfold targS at hx
  rw [Rg.ends_mem] at hx
  unfold svcsOf at hx
  obtain ⟨r, hr, hm⟩ := List.mem_flatMap.1 hx
  obtain ⟨q, hq, rfl⟩ := List.mem_map.1 hm
  have h1 := h r (List.mem_filter.1 hr).1
  unfold leadB at h1
  rw [Bool.and_eq_true, List.all_eq_true] at h1
  exact h1.1 q (List.mem_filter.1 hq).1
 ·unfold targC copiesOf at hx
  obtain ⟨r, hr, rfl⟩ := List.mem_map.1 hx
  obtain ⟨hr1, hr2⟩ := List.mem_filter.1 hr
  have h1 := h r (List.mem_filter.1 hr1).1
  unfold leadB at h1
  rw [Bool.and_eq_true] at h1
  have hn : r.mi ≠ 0 := by simpa using hr2
  rcases Bool.or_eq_true_iff.1 h1.2 with h2 | h2
  ·exact absurd (by simpa using h2) hn
  ·exact h2
theorem kids_there {c : ConfD} (h : c.R.all (leadB c.S) = true) {a x : Int} {l : List Int} (hl : l ∈ kidsG c a) (hx : x ∈ l) : thereB c.S x = true := by
 obtain ⟨k, -, hk⟩ := (kid_mem c a x).1 ⟨l, hl, hx⟩
 exact lead_there h hk
/-- where one level more changes nothing that is there, no further one does -/
theorem lvl_same {c : ConfD} (h : c.R.all (leadB c.S) = true) (tgt : Int) {d e : Nat} (hs : ∀ x, thereB c.S x = true → lvl (kidsG c) tgt (d + 1) x = lvl (kidsG c) tgt d x) (he : d ≤ e) (x : Int) : lvl (kidsG c) tgt e x = lvl (kidsG c) tgt d x := by
 have h1 : ∀ y, lvl (kidsG c) tgt (d + 1) y = lvl (kidsG c) tgt d y := fun y => by
  cases hy : thereB c.S y with
  | true => exact hs y hy
  | false =>
   have : ∀ k, lvl (kidsG c) tgt k y = selfN y tgt := fun k => by
    cases k with
    | zero => rfl
    | succ k =>
     show stpN (kidsG c y) _ _ = _
     rw [kidsG_not hy]
     rfl
   rw [this, this]
 have h2 : ∀ m, d ≤ m → ∀ y, lvl (kidsG c) tgt m y = lvl (kidsG c) tgt d y := fun m hm => by
  induction hm with
  | refl => exact fun _ => rfl
  | @step k hm ih2 =>
   intro y
   show stpN (kidsG c y) _ (lvl (kidsG c) tgt k) = _
   rw [show lvl (kidsG c) tgt k = lvl (kidsG c) tgt d from funext ih2]
   exact h1 y
 exact h2 e he x
theorem lvl_bd (K : Int → List (List Int)) (tgt : Int) : ∀ (d : Nat) (x : Int), 0 ≤ lvl K tgt d x ∧ lvl K tgt d x ≤ mostN
 | 0, x => by
  have := self_bd x tgt
  show 0 ≤ selfN x tgt ∧ selfN x tgt ≤ mostN
  unfold mostN
  omega
 | d + 1, x => by
  have h0 := self_bd x tgt
  have h1 : selfN x tgt ≤ mostN := by unfold mostN; omega
  have h2 := step_ge (lvl K tgt d) (K x) _ h1
  refine ⟨Int.le_trans h0.1 h2, ?_⟩
  show stpN (K x) (selfN x tgt) (lvl K tgt d) ≤ mostN
  rw [stp_sum _ _ _ h1]
  omega
/-! ## factors -/
def depthC (c : ConfD) : Nat := (c.life / c.hop + 1).toNat
def mostS (S : List SvcD) (f : Int → Int) : Int := great (S.map SvcD.id) f
def mirB (R : List RuleD) (id : Int) : Bool := R.any fun r => decide (r.mi = id) && decide (r.mi ≠ 0)
def loadC (c : ConfD) (id : Int) : Int := if mirB c.R id = true then sumM (mostS c.S (lvl (kidsG c) id (depthC c))) 1 else mostS c.S (lvl (kidsG c) id (depthC c))
def factC (c : ConfD) (id : Int) : Int := partM (loadC c id) (1 + c.purse)
theorem great_le_of {f : Int → Int} {m : Int} : ∀ (l : List Int) (n : Int), n ≤ m → (∀ x ∈ l, f x ≤ m) → l.foldl (fun n x => max n (f x)) n ≤ m
 | [], _, h, _ => h
 | x :: l, n, h, hf => great_le_of l (max n (f x)) (by have := hf x (List.mem_cons_self ..); omega) fun y hy => hf y (List.mem_cons_of_mem _ hy)
theorem great_mem {f : Int → Int} : ∀ (l : List Int) (n : Int), ∀ x ∈ l, f x ≤ l.foldl (fun n x => max n (f x)) n
 | [], _, x, hx => by cases hx
 | y :: l, n, x, hx => by
  rcases List.mem_cons.1 hx with rfl | hx
  ·exact Int.le_trans (show f x ≤ max n (f x) by omega) (great_ge f l _)
  ·exact great_mem l _ x hx
/-- the greatest one, however it was found -/
theorem great_unique {f : Int → Int} {l : List Int} {n : Int} (h1 : ∀ x ∈ l, f x ≤ n) (h2 : n = 0 ∨ ∃ x ∈ l, n = f x) (h0 : 0 ≤ n) : n = great l f := by
 have a : great l f ≤ n := great_le_of l 0 h0 h1
 have b : n ≤ great l f := by
  rcases h2 with rfl | ⟨x, hx, rfl⟩
  ·exact great_nn f l
  ·exact great_mem l 0 x hx
 omega
/-! ## without circles -/
end Go.Proofs.YtceaeiaoanhlnaaGreatDoor
namespace Go.Proofs.YtceaeiaoanhlnaaGreatDoor
open Go.ChangeShapes Go.WideShapes Go.ChangeAt Go.RowKit Go.Lib Go.Shelf
theorem checkGo_nodup : ∀ (l : List (Int × Int)) (seen : List Int), seen.Nodup → (∀ x ∈ seen, 1 ≤ x ∧ x ≤ 10) → Sp.checkGo l seen = 0 → (seen ++ l.map (·.1)).Nodup ∧ ∀ x ∈ seen ++ l.map (·.1), 1 ≤ x ∧ x ≤ 10
 | [], seen, h1, h2, _ => by simpa using ⟨h1, h2⟩
 | p :: l, seen, h1, h2, h => by
  unfold Sp.checkGo at h
  split at h
  ·cases h
  ·rename_i hp
   split at h
   ·cases h
   ·have hn : p.1 ∉ seen := fun e => hp (.inr (.inr e))
    have := checkGo_nodup l (seen ++ [p.1]) (by
     rw [List.nodup_append]
     exact ⟨h1, by simp, fun x hx z hz => by rw [List.mem_singleton.1 hz]; intro e; subst e; exact hn hx⟩) (fun x hx => by
     rcases List.mem_append.1 hx with hx | hx
     ·exact h2 x hx
     ·rw [List.mem_singleton.1 hx]
      omega) h
    simpa [List.append_assoc] using this
theorem ten_len (l : List Int) (h : l.Nodup) (hb : ∀ x ∈ l, 1 ≤ x ∧ x ≤ 10) : l.length ≤ 10 := by
 have := nodup_len l [1, 2, 3, 4, 5, 6, 7, 8, 9, 10] h fun x hx => by
  have := hb x hx
  have : x = 1 ∨ x = 2 ∨ x = 3 ∨ x = 4 ∨ x = 5 ∨ x = 6 ∨ x = 7 ∨ x = 8 ∨ x = 9 ∨ x = 10 := by omega
  simpa using this
 simpa using this
theorem chk_rule {c : ConfD} (h : chkC c = 0) {r : RuleD} (hr : r ∈ c.R) : rchk r c.T.length = 0 := (nerr_zero (chkC_ends h).2.2.2.2.2.1).2 r hr
theorem chk_R {c : ConfD} (h : chkC c = 0) : c.R.length ≤ 20 := (nerr_zero (chkC_ends h).2.2.2.2.2.1).1
theorem chk_parts {c : ConfD} (h : chkC c = 0) {r : RuleD} (hr : r ∈ c.R) : r.P.length ≤ 10 := by
 have h1 := chk_rule h hr
 unfold rchk at h1
 have hp : Sp.check r.P = 0 := by
  split at h1
  ·rename_i hm
   exact absurd h1 hm
  ·split at h1
   ·rename_i hm
    exact absurd h1 hm
   ·rename_i hm
    exact Classical.not_not.1 hm
 unfold Sp.check at hp
 have hg : Sp.checkGo r.P [] = 0 := by
  split at hp
  ·rename_i hm
   exact absurd hp hm
  ·rename_i hm
   exact Classical.not_not.1 hm
 have := checkGo_nodup r.P [] List.nodup_nil (fun x hx => by cases hx) hg
 rw [List.nil_append] at this
 have := ten_len _ this.1 this.2
 simpa using this
theorem chk_svc {c : ConfD} (h : chkC c = 0) {s : SvcD} (hs : s ∈ c.S) : (1 ≤ s.id ∧ s.id ≤ 10) ∧ s.K.length ≤ 4 ∧ (1 ≤ s.work ∧ s.work ≤ 100) ∧ (1 ≤ s.queue ∧ s.queue ≤ 50) := by
 have h4 := (chkC_ends h).2.2.2.1
 rw [allAt_spec] at h4
 obtain ⟨k, hk, rfl⟩ := List.getElem_of_mem hs
 have := h4 k hk
 simp only [svcB, inB, Bool.and_eq_true, decide_eq_true_eq] at this
 obtain ⟨⟨⟨⟨⟨⟨⟨⟨a1, a2⟩, a3⟩, a4⟩, a5⟩, a6⟩, a7⟩, a8⟩, a9⟩ := this
 exact ⟨a1, a3, a5, a7⟩
theorem chk_lead {c : ConfD} (h : chkC c = 0) : c.R.all (leadB c.S) = true := (chkC_ends h).2.2.2.2.2.2
theorem chk_S {c : ConfD} (h : chkC c = 0) : c.S.length ≤ 10 := (chkC_ends h).1
theorem chk_num {c : ConfD} (h : chkC c = 0) : (1 ≤ c.low ∧ c.low ≤ c.high) ∧ c.high ≤ 100 ∧ (0 ≤ c.wait ∧ c.wait ≤ 50) ∧ (1 ≤ c.hop ∧ c.hop ≤ 100) ∧ (1 ≤ c.life ∧ c.life ≤ 10000) ∧ (0 ≤ c.purse ∧ c.purse ≤ 64) := by
 obtain ⟨h1, h2, h3, h4, h5, h6, h7⟩ := chkC_ends h
 have h8 : numB c = true := by
  unfold chkC at h
  rw [if_neg (by omega), if_neg (by rw [h4]; decide), if_neg (by rw [h5]; decide), if_neg (by omega), if_neg (by rw [h7]; decide)] at h
  split at h
  ·cases h
  ·split at h
   ·cases h
   ·split at h
    ·cases h
    ·rename_i hn
     simpa using hn
 simp only [numB, inB, Bool.and_eq_true, decide_eq_true_eq] at h8
 obtain ⟨⟨⟨⟨⟨⟨⟨⟨b1, b2⟩, b3⟩, b4⟩, b5⟩, b6⟩, b7⟩, b8⟩, b9⟩ := h8
 exact ⟨b2, b3, b4, b5, b6, b7⟩
/-- a service that one may call is one of the first ten numbers -/
theorem there_ten {c : ConfD} (h : chkC c = 0) {x : Int} (hx : thereB c.S x = true) : 1 ≤ x ∧ x ≤ 10 := by
 obtain ⟨h1, h2⟩ := findS_there hx
 rw [← h2]
 exact (chk_svc h h1).1
/-- a right configuration in memory -/
structure GC (w : World) (c : ConfD) : Prop where
 ok : ConfOk w c
 mx : MaxV w
 chk : chkC c = 0
 fit : ConfFit c
theorem GC.ext {w w' : World} {c : ConfD} (h : GC w c) (e : Ext w w') : GC w' c := ⟨h.ok.ext e, h.mx.ext e, h.chk, h.fit⟩
theorem GC.r {w : World} {c : ConfD} (h : GC w c) : Rules w c.rv c.R := h.ok.2.2.2.1
theorem GC.rk {w : World} {c : ConfD} (h : GC w c) : ∀ r ∈ c.R, RuleOk w r := h.ok.2.2.2.2.1
theorem GC.s {w : World} {c : ConfD} (h : GC w c) : Svcs w c.sv c.S := h.ok.1
theorem GC.k {w : World} {c : ConfD} (h : GC w c) : ∀ s ∈ c.S, Strs w s.kv s.K := h.ok.2.1
theorem GC.ksz {w : World} {c : ConfD} (h : GC w c) (id : Int) : ∀ p ∈ (findS c.S id).K, SzB p := fun p hp => by
 obtain ⟨h1, h2, h3, h4, h5, h6, h7⟩ := h.fit.1 _ (findS_mem hp).1
 exact h7 p hp
theorem GC.find {w : World} {c : ConfD} (h : GC w c) (id : Int) : Strs w (findS c.S id).kv (findS c.S id).K := by
 cases ht : thereB c.S id with
 | true => exact h.k _ (findS_there ht).1
 | false =>
  rw [findS_not ht]
  exact Sl.of_own' (enc := encS) (size := 1) (base := 0) (e := 9) (fun _ => rfl) (World.ownsRow_nil _ _ _ _)
theorem find_kids {c : ConfD} (h : chkC c = 0) (id : Int) : (findS c.S id).K.length ≤ 4 := by
 cases ht : thereB c.S id with
 | true => exact (chk_svc h (findS_there ht).1).2.1
 | false =>
  rw [findS_not ht]
  exact Nat.zero_le _
theorem targ_len {c : ConfD} (h : chkC c = 0) (p : ByteArray) : (targS c.R p).length ≤ 10 ∧ (targC c.R p).length ≤ 20 := by
 refine ⟨ten_len _ ((Rg.ends_sorted _).imp fun a => by omega) fun x hx => there_ten h (lead_there (chk_lead h) (List.mem_append_left _ hx)), ?_⟩
 unfold targC copiesOf
 rw [List.length_map]
 exact Nat.le_trans (List.length_filter_le _ _) (Nat.le_trans (List.length_filter_le _ _) (chk_R h))
theorem targ_fit {c : ConfD} (h : chkC c = 0) (p : ByteArray) : ∀ x ∈ bothP c.R p, 1 ≤ x ∧ x ≤ 10 := fun _ hx => there_ten h (lead_there (chk_lead h) hx)
end Go.Proofs.YtceaeiaoanhlnaaGreatDoor
