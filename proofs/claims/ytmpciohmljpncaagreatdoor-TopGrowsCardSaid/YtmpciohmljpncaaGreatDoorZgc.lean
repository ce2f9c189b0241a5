/- Merged texts (SnM, GpF, GpG). -/
import Derived.Test.YtmpciohmljpncaaGreatDoorZx
import Derived.Test.YtmpciohmljpncaaGreatDoorZcb
import Derived.Test.YtmpciohmljpncaaGreatDoorZgb
namespace Go.Proofs.YtmpciohmljpncaaGreatDoor
open Go.ChangeShapes Go.WideShapes Go.ChangeAt Go.RowKit Go.Lib Go.Shelf
theorem thereB_core (S : List SvcD) (id : Int) : thereB (S.map SvcD.core) id = thereB S id := by
 unfold thereB
 rw [List.any_map]
 rfl
theorem svcB_core (A : List SvcD) (s : SvcD) : svcB (A.map SvcD.core) s.core = svcB A s := by
 have h := thereB_core A s.id
 unfold svcB
 show (inB 1 10 s.id && !thereB (A.map SvcD.core) s.id && _ && _ && _ && _ && _ && _ && _) = _
 rw [h]
 rfl
theorem allAt_map {α β : Type} (f : List β → β → Bool) (g : List α → α → Bool) (m : α → β) (h : ∀ A s, f (A.map m) (m s) = g A s) : ∀ (L A : List α), allAt f (A.map m) (L.map m) = allAt g A L
 | [], _ => rfl
 | x :: L, A => by
  show (f (A.map m) (m x) && allAt f (A.map m ++ [m x]) (L.map m)) = (g A x && allAt g (A ++ [x]) L)
  rw [h, ← allAt_map f g m h L (A ++ [x]), List.map_append]
  rfl
theorem nerr_coreC (R : List RuleD) (n : Int) : nerr (R.map RuleD.core) n = nerr R n := by
 unfold nerr
 rw [List.length_map, List.map_map]
 rfl
theorem lead_core (S : List SvcD) (r : RuleD) : leadB (S.map SvcD.core) r.core = leadB S r := by
 unfold leadB
 show ((r.P.all fun p => thereB (S.map SvcD.core) p.1) && (r.mi == 0 || thereB (S.map SvcD.core) r.mi)) = _
 rw [thereB_core]
 simp only [thereB_core]
theorem chkC_core (c : ConfD) : chkC c.core = chkC c := by
 have h1 : allAt svcB [] (c.S.map SvcD.core) = allAt svcB [] c.S := allAt_map svcB svcB SvcD.core svcB_core c.S []
 have h2 : allAt (fun a e => endB a (c.S.map SvcD.core) e) [] c.E = allAt (fun a e => endB a c.S e) [] c.E := by
  congr 1
  funext a e
  unfold endB
  rw [thereB_core]
 have h3 : (c.R.map RuleD.core).all (leadB (c.S.map SvcD.core)) = c.R.all (leadB c.S) := by
  rw [List.all_map]
  congr 1
  funext r
  exact lead_core c.S r
 unfold chkC
 show (if 10 < (c.S.map SvcD.core).length ∨ 40 < c.E.length ∨ 4 < c.T.length then 2 else if allAt svcB [] (c.S.map SvcD.core) = false then 13 else if allAt (fun a e => endB a (c.S.map SvcD.core) e) [] c.E = false then 14 else if nerr (c.R.map RuleD.core) c.T.length ≠ 0 then nerr (c.R.map RuleD.core) c.T.length else if (c.R.map RuleD.core).all (leadB (c.S.map SvcD.core)) = false then 13 else if c.T.all rateB = false then 15 else if watchB c.core = false then 8 else if numB c.core = false then 8 else 0) = _
 rw [h1, h2, h3, nerr_coreC, List.length_map]
 rfl
theorem nerr_zero {R : List RuleD} {n : Int} (h : nerr R n = 0) : R.length ≤ 20 ∧ ∀ r ∈ R, rchk r n = 0 := by
 unfold nerr at h
 split at h
 ·cases h
 ·rename_i h20
  refine ⟨by omega, fun r hr => ?_⟩
  cases hf : (R.map (rchk · n)).find? (· != 0) with
  | none =>
   have := List.find?_eq_none.1 hf (rchk r n) (List.mem_map.2 ⟨r, hr, rfl⟩)
   simpa using this
  | some z =>
   rw [hf] at h
   have h0 : z = 0 := h
   have := List.find?_some hf
   rw [h0] at this
   cases this
theorem fit_core {c : ConfD} (h : ConfFit c.core) : ConfFit c := by
 obtain ⟨h1, h2, h3, h4, h5, h6, h7⟩ := h
 refine ⟨fun s hs => ?_, h2, fun r hr => ?_, ?_, h5, ?_, h7⟩
 ·have := h1 s.core (List.mem_map.2 ⟨s, hs, rfl⟩)
  exact this
 ·have := h3 r.core (List.mem_map.2 ⟨r, hr, rfl⟩)
  exact this
 ·have : (c.S.map SvcD.core).length ≤ 1000 := h4
  simpa using this
 ·have : (c.R.map RuleD.core).length ≤ 1000 := h6
  simpa using this
theorem good_conf {c : ConfD} {L : List Int} (h : c.core = genC L) : ConfFit c ∧ chkC c = 0 ∧ c.E.length ≤ 10 := by
 refine ⟨fit_core (h ▸ genC_fit L), by rw [← chkC_core, h, genC_right], ?_⟩
 have e : c.E = (genC L).E := by
  have : c.core.E = (genC L).E := by rw [h]
  exact this
 rw [e]
 have hm := svcsM_bd L
 show (endsA L (svcsM L) ++ endsZ L (svcsM L) (endsM L)).length ≤ 10
 rw [List.length_append, endsA_len, endsZ_len]
 unfold endsM
 omega
end Go.Proofs.YtmpciohmljpncaaGreatDoor
namespace Go.Proofs.YtmpciohmljpncaaGreatDoor
open Go.ChangeShapes Go.WideShapes Go.ChangeAt Go.RowKit Go.Lib Go.Shelf
theorem findS_there {S : List SvcD} {id : Int} (h : thereB S id = true) : findS S id ∈ S ∧ (findS S id).id = id := by
 unfold thereB at h
 obtain ⟨s, hs, he⟩ := List.any_eq_true.1 h
 unfold findS
 cases hf : S.find? (fun s => s.id == id) with
 | none => exact absurd he (by simpa using List.find?_eq_none.1 hf s hs)
 | some x => exact ⟨List.mem_of_find?_eq_some hf, by simpa using List.find?_some hf⟩
theorem findS_not {S : List SvcD} {id : Int} (h : thereB S id = false) : findS S id = svc0 := by
 unfold findS
 rw [show S.find? (fun s => s.id == id) = none from List.find?_eq_none.2 fun s hs he => by
  have : thereB S id = true := List.any_eq_true.2 ⟨s, hs, he⟩
  rw [h] at this
  cases this]
 rfl
theorem kidsG_not {c : ConfD} {id : Int} (h : thereB c.S id = false) : kidsG c id = [] := by
 unfold kidsG
 rw [findS_not h]
 rfl
/-- whom one may call is there -/
theorem lead_there {c : ConfD} (h : c.R.all (leadB c.S) = true) {p : ByteArray} {x : Int} (hx : x ∈ bothP c.R p) : thereB c.S x = true := by
 unfold bothP at hx
 rw [List.all_eq_true] at h
 rcases List.mem_append.1 hx with hx | hx
 ·unfold targS at hx
  rw [Rg.ends_mem] at hx
  unfold svcsOf at hx
  obtain ⟨r, hr, hm⟩ := List.mem_flatMap.1 hx
  obtain ⟨q, hq, rfl⟩ := List.mem_map.1 hm
  have h1 := h r (List.mem_filter.1 hr).1
  unfold leadB at h1
  rw [Bool.and_eq_true, List.all_eq_true] at h1
  exact h1.1 q (List.mem_filter.1 hq).1
 ·unfold targC copiesOf at hx
  obtain ⟨r, hr, rfl⟩ := List.mem_map.1 hx
  obtain ⟨hr1, hr2⟩ := List.mem_filter.1 hr
  have h1 := h r (List.mem_filter.1 hr1).1
  unfold leadB at h1
  rw [Bool.and_eq_true] at h1
  have hn : r.mi ≠ 0 := by simpa using hr2
  rcases Bool.or_eq_true_iff.1 h1.2 with h2 | h2
  ·exact absurd (by simpa using h2) hn
  ·exact h2
theorem kids_there {c : ConfD} (h : c.R.all (leadB c.S) = true) {a x : Int} {l : List Int} (hl : l ∈ kidsG c a) (hx : x ∈ l) : thereB c.S x = true := by
 obtain ⟨k, -, hk⟩ := (kid_mem c a x).1 ⟨l, hl, hx⟩
 exact lead_there h hk
/-- where one level more changes nothing that is there, no further one does -/
theorem lvl_same {c : ConfD} (h : c.R.all (leadB c.S) = true) (tgt : Int) {d e : Nat} (hs : ∀ x, thereB c.S x = true → lvl (kidsG c) tgt (d + 1) x = lvl (kidsG c) tgt d x) (he : d ≤ e) (x : Int) : lvl (kidsG c) tgt e x = lvl (kidsG c) tgt d x := by
 have h1 : ∀ y, lvl (kidsG c) tgt (d + 1) y = lvl (kidsG c) tgt d y := fun y => by
  cases hy : thereB c.S y with
  | true => exact hs y hy
  | false =>
   have : ∀ k, lvl (kidsG c) tgt k y = selfN y tgt := fun k => by
    cases k with
    | zero => rfl
    | succ k =>
     show stpN (kidsG c y) _ _ = _
     rw [kidsG_not hy]
     rfl
   rw [this, this]
 have h2 : ∀ m, d ≤ m → ∀ y, lvl (kidsG c) tgt m y = lvl (kidsG c) tgt d y := fun m hm => by
  induction hm with
  | refl => exact fun _ => rfl
  | @step k hm ih2 =>
   intro y
   show stpN (kidsG c y) _ (lvl (kidsG c) tgt k) = _
   rw [show lvl (kidsG c) tgt k = lvl (kidsG c) tgt d from funext ih2]
   exact h1 y
 exact h2 e he x
theorem lvl_bd (K : Int → List (List Int)) (tgt : Int) : ∀ (d : Nat) (x : Int), 0 ≤ lvl K tgt d x ∧ lvl K tgt d x ≤ mostN
 | 0, x => by
  have := self_bd x tgt
  show 0 ≤ selfN x tgt ∧ selfN x tgt ≤ mostN
  unfold mostN
  omega
 | d + 1, x => by
  have h0 := self_bd x tgt
  have h1 : selfN x tgt ≤ mostN := by unfold mostN; omega
  have h2 := step_ge (lvl K tgt d) (K x) _ h1
  refine ⟨Int.le_trans h0.1 h2, ?_⟩
  show stpN (K x) (selfN x tgt) (lvl K tgt d) ≤ mostN
  rw [stp_sum _ _ _ h1]
  omega
/-! ## factors -/
def depthC (c : ConfD) : Nat := (c.life / c.hop + 1).toNat
def mostS (S : List SvcD) (f : Int → Int) : Int := great (S.map SvcD.id) f
def mirB (R : List RuleD) (id : Int) : Bool := R.any fun r => decide (r.mi = id) && decide (r.mi ≠ 0)
def loadC (c : ConfD) (id : Int) : Int := if mirB c.R id = true then sumM (mostS c.S (lvl (kidsG c) id (depthC c))) 1 else mostS c.S (lvl (kidsG c) id (depthC c))
def factC (c : ConfD) (id : Int) : Int := partM (loadC c id) (1 + c.purse)
theorem great_le_of {f : Int → Int} {m : Int} : ∀ (l : List Int) (n : Int), n ≤ m → (∀ x ∈ l, f x ≤ m) → l.foldl (fun n x => max n (f x)) n ≤ m
 | [], _, h, _ => h
 | x :: l, n, h, hf => great_le_of l (max n (f x)) (by have := hf x (List.mem_cons_self ..); omega) fun y hy => hf y (List.mem_cons_of_mem _ hy)
theorem great_mem {f : Int → Int} : ∀ (l : List Int) (n : Int), ∀ x ∈ l, f x ≤ l.foldl (fun n x => max n (f x)) n
 | [], _, x, hx => by cases hx
 | y :: l, n, x, hx => by
  rcases List.mem_cons.1 hx with rfl | hx
  ·exact Int.le_trans (show f x ≤ max n (f x) by omega) (great_ge f l _)
  ·exact great_mem l _ x hx
/-- the greatest one, however it was found -/
theorem great_unique {f : Int → Int} {l : List Int} {n : Int} (h1 : ∀ x ∈ l, f x ≤ n) (h2 : n = 0 ∨ ∃ x ∈ l, n = f x) (h0 : 0 ≤ n) : n = great l f := by
 have a : great l f ≤ n := great_le_of l 0 h0 h1
 have b : n ≤ great l f := by
  rcases h2 with rfl | ⟨x, hx, rfl⟩
  ·exact great_nn f l
  ·exact great_mem l 0 x hx
 omega
theorem loadC_bd (c : ConfD) (id : Int) : 0 ≤ loadC c id ∧ loadC c id ≤ mostN := by
 have h1 := great_nn (lvl (kidsG c) id (depthC c)) (c.S.map SvcD.id)
 have h2 : mostS c.S (lvl (kidsG c) id (depthC c)) ≤ mostN := great_le_of _ 0 (by decide) fun x _ => (lvl_bd _ _ _ x).2
 unfold loadC sumM
 unfold mostS at *
 split <;> omega
theorem part_one {n : Int} (h : 0 ≤ n ∧ n ≤ mostN) : partM n 1 = n := by
 unfold partM
 omega
/-! ## without circles -/
end Go.Proofs.YtmpciohmljpncaaGreatDoor
namespace Go.Proofs.YtmpciohmljpncaaGreatDoor
open Go.ChangeShapes Go.WideShapes Go.ChangeAt Go.RowKit Go.Lib Go.Shelf
theorem checkGo_nodup : ∀ (l : List (Int × Int)) (seen : List Int), seen.Nodup → (∀ x ∈ seen, 1 ≤ x ∧ x ≤ 10) → Sp.checkGo l seen = 0 → (seen ++ l.map (·.1)).Nodup ∧ ∀ x ∈ seen ++ l.map (·.1), 1 ≤ x ∧ x ≤ 10
 | [], seen, h1, h2, _ => by simpa using ⟨h1, h2⟩
 | p :: l, seen, h1, h2, h => by
  unfold Sp.checkGo at h
  split at h
  ·cases h
  ·rename_i hp
   split at h
   ·cases h
   ·have hn : p.1 ∉ seen := fun e => hp (.inr (.inr e))
    have := checkGo_nodup l (seen ++ [p.1]) (by
     rw [List.nodup_append]
     exact ⟨h1, by simp, fun x hx z hz => by rw [List.mem_singleton.1 hz]; intro e; subst e; exact hn hx⟩) (fun x hx => by
     rcases List.mem_append.1 hx with hx | hx
     ·exact h2 x hx
     ·rw [List.mem_singleton.1 hx]
      omega) h
    simpa [List.append_assoc] using this
theorem ten_len (l : List Int) (h : l.Nodup) (hb : ∀ x ∈ l, 1 ≤ x ∧ x ≤ 10) : l.length ≤ 10 := by
 have := nodup_len l [1, 2, 3, 4, 5, 6, 7, 8, 9, 10] h fun x hx => by
  have := hb x hx
  have : x = 1 ∨ x = 2 ∨ x = 3 ∨ x = 4 ∨ x = 5 ∨ x = 6 ∨ x = 7 ∨ x = 8 ∨ x = 9 ∨ x = 10 := by omega
  simpa using this
 simpa using this
theorem chk_rule {c : ConfD} (h : chkC c = 0) {r : RuleD} (hr : r ∈ c.R) : rchk r c.T.length = 0 := (nerr_zero (chkC_ends h).2.2.2.2.2.1).2 r hr
theorem chk_R {c : ConfD} (h : chkC c = 0) : c.R.length ≤ 20 := (nerr_zero (chkC_ends h).2.2.2.2.2.1).1
theorem chk_parts {c : ConfD} (h : chkC c = 0) {r : RuleD} (hr : r ∈ c.R) : r.P.length ≤ 10 := by
 have h1 := chk_rule h hr
 unfold rchk at h1
 have hp : Sp.check r.P = 0 := by
  split at h1
  ·rename_i hm
   exact absurd h1 hm
  ·split at h1
   ·rename_i hm
    exact absurd h1 hm
   ·rename_i hm
    exact Classical.not_not.1 hm
 unfold Sp.check at hp
 have hg : Sp.checkGo r.P [] = 0 := by
  split at hp
  ·rename_i hm
   exact absurd hp hm
  ·rename_i hm
   exact Classical.not_not.1 hm
 have := checkGo_nodup r.P [] List.nodup_nil (fun x hx => by cases hx) hg
 rw [List.nil_append] at this
 have := ten_len _ this.1 this.2
 simpa using this
theorem chk_svc {c : ConfD} (h : chkC c = 0) {s : SvcD} (hs : s ∈ c.S) : (1 ≤ s.id ∧ s.id ≤ 10) ∧ s.K.length ≤ 4 ∧ (1 ≤ s.work ∧ s.work ≤ 100) ∧ (1 ≤ s.queue ∧ s.queue ≤ 50) := by
 have h4 := (chkC_ends h).2.2.2.1
 rw [allAt_spec] at h4
 obtain ⟨k, hk, rfl⟩ := List.getElem_of_mem hs
 have := h4 k hk
 simp only [svcB, inB, Bool.and_eq_true, decide_eq_true_eq] at this
 obtain ⟨⟨⟨⟨⟨⟨⟨⟨a1, a2⟩, a3⟩, a4⟩, a5⟩, a6⟩, a7⟩, a8⟩, a9⟩ := this
 exact ⟨a1, a3, a5, a7⟩
theorem chk_lead {c : ConfD} (h : chkC c = 0) : c.R.all (leadB c.S) = true := (chkC_ends h).2.2.2.2.2.2
theorem chk_S {c : ConfD} (h : chkC c = 0) : c.S.length ≤ 10 := (chkC_ends h).1
theorem chk_num {c : ConfD} (h : chkC c = 0) : (1 ≤ c.low ∧ c.low ≤ c.high) ∧ c.high ≤ 100 ∧ (0 ≤ c.wait ∧ c.wait ≤ 50) ∧ (1 ≤ c.hop ∧ c.hop ≤ 100) ∧ (1 ≤ c.life ∧ c.life ≤ 10000) ∧ (0 ≤ c.purse ∧ c.purse ≤ 64) := by
 obtain ⟨h1, h2, h3, h4, h5, h6, h7⟩ := chkC_ends h
 have h8 : numB c = true := by
  unfold chkC at h
  rw [if_neg (by omega), if_neg (by rw [h4]; decide), if_neg (by rw [h5]; decide), if_neg (by omega), if_neg (by rw [h7]; decide)] at h
  split at h
  ·cases h
  ·split at h
   ·cases h
   ·split at h
    ·cases h
    ·rename_i hn
     simpa using hn
 simp only [numB, inB, Bool.and_eq_true, decide_eq_true_eq] at h8
 obtain ⟨⟨⟨⟨⟨⟨⟨⟨b1, b2⟩, b3⟩, b4⟩, b5⟩, b6⟩, b7⟩, b8⟩, b9⟩ := h8
 exact ⟨b2, b3, b4, b5, b6, b7⟩
/-- a service that one may call is one of the first ten numbers -/
theorem there_ten {c : ConfD} (h : chkC c = 0) {x : Int} (hx : thereB c.S x = true) : 1 ≤ x ∧ x ≤ 10 := by
 obtain ⟨h1, h2⟩ := findS_there hx
 rw [← h2]
 exact (chk_svc h h1).1
/-- a right configuration in memory -/
structure GC (w : World) (c : ConfD) : Prop where
 ok : ConfOk w c
 mx : MaxV w
 chk : chkC c = 0
 fit : ConfFit c
theorem GC.ext {w w' : World} {c : ConfD} (h : GC w c) (e : Ext w w') : GC w' c := ⟨h.ok.ext e, h.mx.ext e, h.chk, h.fit⟩
theorem GC.r {w : World} {c : ConfD} (h : GC w c) : Rules w c.rv c.R := h.ok.2.2.2.1
theorem GC.rk {w : World} {c : ConfD} (h : GC w c) : ∀ r ∈ c.R, RuleOk w r := h.ok.2.2.2.2.1
theorem GC.s {w : World} {c : ConfD} (h : GC w c) : Svcs w c.sv c.S := h.ok.1
theorem GC.k {w : World} {c : ConfD} (h : GC w c) : ∀ s ∈ c.S, Strs w s.kv s.K := h.ok.2.1
theorem GC.ksz {w : World} {c : ConfD} (h : GC w c) (id : Int) : ∀ p ∈ (findS c.S id).K, SzB p := fun p hp => by
 obtain ⟨h1, h2, h3, h4, h5, h6, h7⟩ := h.fit.1 _ (findS_mem hp).1
 exact h7 p hp
theorem GC.find {w : World} {c : ConfD} (h : GC w c) (id : Int) : Strs w (findS c.S id).kv (findS c.S id).K := by
 cases ht : thereB c.S id with
 | true => exact h.k _ (findS_there ht).1
 | false =>
  rw [findS_not ht]
  exact Sl.of_own' (enc := encS) (size := 1) (base := 0) (e := 9) (fun _ => rfl) (World.ownsRow_nil _ _ _ _)
theorem find_kids {c : ConfD} (h : chkC c = 0) (id : Int) : (findS c.S id).K.length ≤ 4 := by
 cases ht : thereB c.S id with
 | true => exact (chk_svc h (findS_there ht).1).2.1
 | false =>
  rw [findS_not ht]
  exact Nat.zero_le _
theorem targ_len {c : ConfD} (h : chkC c = 0) (p : ByteArray) : (targS c.R p).length ≤ 10 ∧ (targC c.R p).length ≤ 20 := by
 refine ⟨ten_len _ ((Rg.ends_sorted _).imp fun a => by omega) fun x hx => there_ten h (lead_there (chk_lead h) (List.mem_append_left _ hx)), ?_⟩
 unfold targC copiesOf
 rw [List.length_map]
 exact Nat.le_trans (List.length_filter_le _ _) (Nat.le_trans (List.length_filter_le _ _) (chk_R h))
end Go.Proofs.YtmpciohmljpncaaGreatDoor
