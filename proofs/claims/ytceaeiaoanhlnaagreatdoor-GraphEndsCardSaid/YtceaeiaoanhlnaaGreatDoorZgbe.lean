/- Merged texts (GpB, GpD, GpE). -/
import Derived.Test.YtceaeiaoanhlnaaGreatDoorZgse
namespace Go.Proofs.YtceaeiaoanhlnaaGreatDoor
open Go.ChangeShapes Go.WideShapes Go.ChangeAt Go.RowKit Go.Lib Go.Shelf
theorem great_congr {f g : Int → Int} : ∀ (l : List Int) (n : Int), (∀ x ∈ l, f x = g x) → l.foldl (fun n x => max n (f x)) n = l.foldl (fun n x => max n (g x)) n
 | [], _, _ => rfl
 | x :: l, n, h => by
  show l.foldl _ (max n (f x)) = l.foldl _ (max n (g x))
  rw [h x (List.mem_cons_self ..)]
  exact great_congr l _ fun y hy => h y (List.mem_cons_of_mem _ hy)
/-- is there a way of so many calls from a service? -/
def Chain (K : Int → List (List Int)) : Nat → Int → Prop
 | 0, _ => True
 | d + 1, id => ∃ l ∈ K id, ∃ x ∈ l, Chain K d x
theorem Chain.pred (K : Int → List (List Int)) : ∀ (d : Nat) (id : Int), Chain K (d + 1) id → Chain K d id
 | 0, _, _ => trivial
 | d + 1, _, ⟨l, hl, x, hx, h⟩ => ⟨l, hl, x, hx, Chain.pred K d x h⟩
theorem Chain.le (K : Int → List (List Int)) {d e : Nat} (h : d ≤ e) (id : Int) (c : Chain K e id) : Chain K d id := by
 induction h with
 | refl => exact c
 | step h ih => exact ih (Chain.pred K _ id c)
/-- a service is called on the way from another one -/
inductive Reach (K : Int → List (List Int)) : Int → Int → Prop where
 | one {a x : Int} {l : List Int} : l ∈ K a → x ∈ l → Reach K a x
 | step {a b x : Int} {l : List Int} : Reach K a b → l ∈ K b → x ∈ l → Reach K a x
/-- a way as a list -/
def Path (K : Int → List (List Int)) : List Int → Prop
 | [] => True
 | [_] => True
 | a :: b :: l => (∃ m ∈ K a, b ∈ m) ∧ Path K (b :: l)
theorem Chain.path (K : Int → List (List Int)) : ∀ (d : Nat) (id : Int), Chain K d id → ∃ l, l.length = d ∧ Path K (id :: l)
 | 0, _, _ => ⟨[], rfl, trivial⟩
 | d + 1, _, ⟨m, hm, x, hx, h⟩ => by
  obtain ⟨l, hl, hp⟩ := Chain.path K d x h
  exact ⟨x :: l, by simp [hl], ⟨m, hm, hx⟩, hp⟩
theorem Reach.ahead {K : Int → List (List Int)} {a b x : Int} (h : Reach K a b) (k : Reach K b x) : Reach K a x := by
 induction k with
 | one h1 h2 => exact .step h h1 h2
 | step _ h1 h2 ih => exact .step ih h1 h2
theorem Path.reach (K : Int → List (List Int)) : ∀ (l : List Int) (a : Int), Path K (a :: l) → ∀ x ∈ l, Reach K a x
 | [], _, _, x, hx => by cases hx
 | b :: l, a, ⟨⟨m, hm, hb⟩, hp⟩, x, hx => by
  rcases List.mem_cons.1 hx with rfl | hx
  ·exact .one hm hb
  ·exact Reach.ahead (.one hm hb) (Path.reach K l b hp x hx)
theorem Path.nodup (K : Int → List (List Int)) (hno : ∀ a, ¬ Reach K a a) : ∀ (l : List Int), Path K l → l.Nodup
 | [], _ => List.nodup_nil
 | [a], _ => by simp
 | a :: b :: l, h => by
  refine List.nodup_cons.2 ⟨fun hm => hno a (Path.reach K (b :: l) a h a hm), Path.nodup K hno (b :: l) h.2⟩
theorem Path.in (K : Int → List (List Int)) (S : List Int) (hS : ∀ a, ∀ m ∈ K a, ∀ x ∈ m, a ∈ S ∧ x ∈ S) : ∀ (l : List Int) (a : Int), 0 < l.length → Path K (a :: l) → ∀ x ∈ a :: l, x ∈ S
 | [], _, h, _, _, _ => absurd h (by simp)
 | [b], a, _, ⟨⟨m, hm, hb⟩, _⟩, x, hx => by
  have := hS a m hm b hb
  rcases List.mem_cons.1 hx with rfl | hx
  ·exact this.1
  ·rw [List.mem_singleton.1 hx]; exact this.2
 | b :: c :: l, a, _, ⟨⟨m, hm, hb⟩, hp⟩, x, hx => by
  have := hS a m hm b hb
  rcases List.mem_cons.1 hx with rfl | hx
  ·exact this.1
  ·exact Path.in K S hS (c :: l) b (by simp) hp x hx
theorem nodup_len : ∀ (l S : List Int), l.Nodup → (∀ x ∈ l, x ∈ S) → l.length ≤ S.length
 | [], _, _, _ => Nat.zero_le _
 | a :: l, S, h, hs => by
  have h1 := List.nodup_cons.1 h
  have hm := hs a (List.mem_cons_self ..)
  have := nodup_len l (S.erase a) h1.2 fun x hx => (List.mem_erase_of_ne (fun (e : x = a) => h1.1 (by rw [← e]; exact hx))).2 (hs x (List.mem_cons_of_mem _ hx))
  rw [List.length_erase_of_mem hm] at this
  have h0 : 0 < S.length := List.length_pos_of_mem hm
  simp
  omega
/-! ## a bound of the load -/
def sumG (K : List (List Int)) (f : Int → Int) : Int := (K.map fun l => great l f).sum
theorem sumG_nn (f : Int → Int) : ∀ (K : List (List Int)), 0 ≤ sumG K f
 | [] => Int.le_refl 0
 | l :: K => by
  have := sumG_nn f K
  have := great_nn f l
  show 0 ≤ great l f + sumG K f
  omega
/-- all together, at most Most -/
theorem stp_sum (f : Int → Int) : ∀ (K : List (List Int)) (n : Int), n ≤ mostN → stpN K n f = min (n + sumG K f) mostN
 | [], n, h => by
  show n = min (n + 0) mostN
  omega
 | l :: K, n, h => by
  have h1 := sumG_nn f K
  have h2 := great_nn f l
  show stpN K (min (n + great l f) mostN) f = min (n + (great l f + sumG K f)) mostN
  rw [stp_sum f K _ (by omega)]
  omega
def partM (n num : Int) : Int := min (n * num) mostN
end Go.Proofs.YtceaeiaoanhlnaaGreatDoor
namespace Go.Proofs.YtceaeiaoanhlnaaGreatDoor
section
variable {α : Type} [DecidableEq α]
/-- a list, and behind it those of another one that are new -/
def addNew (l : List α) : List α → List α
 | [] => l
 | x :: xs => addNew (if x ∈ l then l else l ++ [x]) xs
theorem addNew_append : ∀ (a b l : List α), addNew l (a ++ b) = addNew (addNew l a) b
 | [], _, _ => rfl
 | _ :: a, b, l => addNew_append a b _
theorem addNew_snoc (a : List α) (x : α) (l : List α) : addNew l (a ++ [x]) = if x ∈ addNew l a then addNew l a else addNew l a ++ [x] := addNew_append a [x] l
theorem addNew_mem : ∀ (a l : List α) (x : α), x ∈ addNew l a ↔ x ∈ l ∨ x ∈ a
 | [], l, x => by simp [addNew]
 | y :: a, l, x => by
  show x ∈ addNew (if y ∈ l then l else l ++ [y]) a ↔ _
  rw [addNew_mem a _ x]
  split
  ·rename_i h
   simp only [List.mem_cons]
   constructor
   ·rintro (h1 | h1)
    ·exact .inl h1
    ·exact .inr (.inr h1)
   ·rintro (h1 | rfl | h1)
    ·exact .inl h1
    ·exact .inl h
    ·exact .inr h1
  ·simp only [List.mem_append, List.mem_cons, List.not_mem_nil, or_false, or_assoc]
theorem addNew_nodup : ∀ (a l : List α), l.Nodup → (addNew l a).Nodup
 | [], _, h => h
 | y :: a, l, h => by
  refine addNew_nodup a _ ?_
  split
  ·exact h
  ·rename_i hy
   rw [List.nodup_append]
   exact ⟨h, by simp, fun x hx z hz => by rw [List.mem_singleton.1 hz]; intro e; subst e; exact hy hx⟩
theorem addNew_pre : ∀ (a l : List α), ∃ t, addNew l a = l ++ t
 | [], l => ⟨[], by simp [addNew]⟩
 | y :: a, l => by
  obtain ⟨t, ht⟩ := addNew_pre a (if y ∈ l then l else l ++ [y])
  by_cases h : y ∈ l
  ·exact ⟨t, by simpa [addNew, h] using ht⟩
  ·exact ⟨y :: t, by simpa [addNew, h] using ht⟩
/-- all that is on the way, from the i-th of what is listed on -/
def wayGo (nb : α → List α) : Nat → List α → Nat → List α
 | 0, l, _ => l
 | f + 1, l, i => match l[i]? with
  | none => l
  | some p => wayGo nb f (addNew l (nb p)) (i + 1)
/-- on the way of a thing -/
inductive ReachP (nb : α → List α) : α → α → Prop where
 | refl (a : α) : ReachP nb a a
 | step {a b x : α} : ReachP nb a b → x ∈ nb b → ReachP nb a x
theorem ReachP.ahead {β : Type} {nb : β → List β} {a b x : β} (h : ReachP nb a b) (k : ReachP nb b x) : ReachP nb a x := by
 induction k with
 | refl => exact h
 | step _ h2 ih => exact .step ih h2
theorem ReachP.head {β : Type} {nb : β → List β} {a b x : β} (h : b ∈ nb a) (k : ReachP nb b x) : ReachP nb a x := (ReachP.step (.refl a) h).ahead k
/-- what the i-th round starts from -/
structure WaySt (nb : α → List α) (ps l : List α) (i : Nat) : Prop where
 nodup : l.Nodup
 le : i ≤ l.length
 has : ∀ p ∈ ps, p ∈ l
 from_ : ∀ x ∈ l, ∃ p ∈ ps, ReachP nb p x
 done : ∀ j (h : j < l.length), j < i → ∀ y ∈ nb l[j], y ∈ l
theorem WaySt.start (nb : α → List α) (ps : List α) : WaySt nb ps (addNew [] ps) 0 :=
 ⟨addNew_nodup _ _ List.nodup_nil, Nat.zero_le _, fun p hp => (addNew_mem _ _ _).2 (.inr hp), fun x hx => ⟨x, by simpa using (addNew_mem _ _ _).1 hx, .refl x⟩, fun j _ hj => by omega⟩
theorem WaySt.step {nb : α → List α} {ps l : List α} {i : Nat} (h : WaySt nb ps l i) (hi : i < l.length) : WaySt nb ps (addNew l (nb l[i])) (i + 1) := by
 obtain ⟨t, ht⟩ := addNew_pre (nb l[i]) l
 refine ⟨addNew_nodup _ _ h.nodup, by rw [ht, List.length_append]; omega, fun p hp => (addNew_mem _ _ _).2 (.inl (h.has p hp)), fun x hx => ?_, fun j hj hji y hy => ?_⟩
 ·rcases (addNew_mem _ _ _).1 hx with hx | hx
  ·exact h.from_ x hx
  ·obtain ⟨p, hp, hr⟩ := h.from_ l[i] (List.getElem_mem hi)
   exact ⟨p, hp, .step hr hx⟩
 ·have hjl : j < l.length := by omega
  have e : (addNew l (nb l[i]))[j] = l[j] := by
   have h1 : (addNew l (nb l[i]))[j]? = l[j]? := by rw [ht, List.getElem?_append_left hjl]
   rw [List.getElem?_eq_getElem hj, List.getElem?_eq_getElem hjl] at h1
   exact Option.some.inj h1
  rw [e] at hy
  rcases Nat.lt_succ_iff_lt_or_eq.1 hji with hji | rfl
  ·exact (addNew_mem _ _ _).2 (.inl (h.done j hjl hji y hy))
  ·exact (addNew_mem _ _ _).2 (.inr hy)
theorem WaySt.mem {β : Type} {nb : β → List β} {ps l : List β} (h : WaySt nb ps l l.length) (x : β) : x ∈ l ↔ ∃ p ∈ ps, ReachP nb p x := by
 refine ⟨h.from_ x, ?_⟩
 rintro ⟨p, hp, hr⟩
 induction hr with
 | refl => exact h.has p hp
 | step _ h2 ih =>
  obtain ⟨j, hj, e⟩ := List.getElem_of_mem ih
  exact h.done j hj hj _ (by rw [e]; exact h2)
theorem nodup_lenG : ∀ (l S : List α), l.Nodup → (∀ x ∈ l, x ∈ S) → l.length ≤ S.length
 | [], _, _, _ => Nat.zero_le _
 | a :: l, S, h, hs => by
  have h1 := List.nodup_cons.1 h
  have hm := hs a (List.mem_cons_self ..)
  have := nodup_lenG l (S.erase a) h1.2 fun x hx => (List.mem_erase_of_ne (fun (e : x = a) => h1.1 (by rw [← e]; exact hx))).2 (hs x (List.mem_cons_of_mem _ hx))
  rw [List.length_erase_of_mem hm] at this
  have h0 : 0 < S.length := List.length_pos_of_mem hm
  simp
  omega
/-- no more is found than there is -/
theorem WaySt.len {nb : α → List α} {ps l : List α} {i : Nat} (h : WaySt nb ps l i) (U : List α) (h1 : ∀ p ∈ ps, p ∈ U) (h2 : ∀ a, ∀ x ∈ nb a, x ∈ U) : l.length ≤ U.length := by
 refine nodup_lenG l U h.nodup fun x hx => ?_
 obtain ⟨p, hp, hr⟩ := h.from_ x hx
 cases hr with
 | refl => exact h1 _ hp
 | step _ h3 => exact h2 _ _ h3
theorem wayGo_end (nb : α → List α) (f : Nat) (l : List α) (i : Nat) (h : l.length ≤ i) : wayGo nb f l i = l := by
 cases f with
 | zero => rfl
 | succ f =>
  unfold wayGo
  rw [List.getElem?_eq_none h]
theorem wayGo_step (nb : α → List α) (f : Nat) (l : List α) (i : Nat) (h : i < l.length) : wayGo nb (f + 1) l i = wayGo nb f (addNew l (nb l[i])) (i + 1) := by
 show (match l[i]? with | none => l | some p => wayGo nb f (addNew l (nb p)) (i + 1)) = _
 rw [List.getElem?_eq_getElem h]
/-- all that is on the way of some things, in the row in which it is found; at most U of them -/
def wayOf (nb : α → List α) (U : List α) (ps : List α) : List α := wayGo nb U.length (addNew [] ps) 0
theorem way_spec (nb : α → List α) (U : List α) : ∀ (f : Nat) (ps l : List α) (i : Nat), WaySt nb ps l i → (∀ p ∈ ps, p ∈ U) → (∀ a, ∀ x ∈ nb a, x ∈ U) → U.length ≤ f + i → WaySt nb ps (wayGo nb f l i) (wayGo nb f l i).length
 | 0, ps, l, i, h, h1, h2, hf => by
  have := h.len U h1 h2
  have e : i = l.length := by have := h.le; omega
  subst e
  exact h
 | f + 1, ps, l, i, h, h1, h2, hf => by
  by_cases hi : i < l.length
  ·rw [wayGo_step nb f l i hi]
   exact way_spec nb U f ps _ _ (h.step hi) h1 h2 (by omega)
  ·have e : i = l.length := by have := h.le; omega
   rw [wayGo_end nb _ l i (by omega)]
   subst e
   exact h
theorem wayOf_mem (nb : α → List α) (U ps : List α) (h1 : ∀ p ∈ ps, p ∈ U) (h2 : ∀ a, ∀ x ∈ nb a, x ∈ U) (x : α) : x ∈ wayOf nb U ps ↔ ∃ p ∈ ps, ReachP nb p x :=
 (way_spec nb U U.length ps _ 0 (WaySt.start nb ps) h1 h2 (by omega)).mem x
end
end Go.Proofs.YtceaeiaoanhlnaaGreatDoor
namespace Go.Proofs.YtceaeiaoanhlnaaGreatDoor
open Go.ChangeShapes Go.WideShapes Go.ChangeAt Go.RowKit Go.Lib Go.Shelf
def bothP (R : List RuleD) (p : ByteArray) : List Int := targS R p ++ targC R p
/-- the paths that come next -/
def nbP (c : ConfD) (p : ByteArray) : List ByteArray := (bothP c.R p).flatMap fun id => (findS c.S id).K
def allK (c : ConfD) : List ByteArray := c.S.flatMap SvcD.K
theorem findS_mem {S : List SvcD} {id : Int} {p : ByteArray} (h : p ∈ (findS S id).K) : findS S id ∈ S ∧ (findS S id).id = id := by
 unfold findS at h ⊢
 cases hf : S.find? (fun s => s.id == id) with
 | none => rw [hf] at h; cases h
 | some s =>
  have h1 := List.mem_of_find?_eq_some hf
  have h2 := List.find?_some hf
  exact ⟨h1, by simpa using h2⟩
theorem nbP_all (c : ConfD) (a : ByteArray) : ∀ x ∈ nbP c a, x ∈ allK c := by
 intro x hx
 obtain ⟨id, -, hk⟩ := List.mem_flatMap.1 hx
 exact List.mem_flatMap.2 ⟨_, (findS_mem hk).1, hk⟩
def wayC (c : ConfD) (ps : List ByteArray) : List ByteArray := wayOf (nbP c) (ps ++ allK c) ps
theorem wayC_mem (c : ConfD) (ps : List ByteArray) (x : ByteArray) : x ∈ wayC c ps ↔ ∃ p ∈ ps, ReachP (nbP c) p x :=
 wayOf_mem (nbP c) _ ps (fun p hp => List.mem_append_left _ hp) (fun a x hx => List.mem_append_right _ (nbP_all c a x hx)) x
/-- is a service within itself? -/
def withinB (c : ConfD) (id : Int) : Bool := (wayC c (findS c.S id).K).any fun p => (bothP c.R p).contains id
theorem withinB_iff (c : ConfD) (id : Int) : withinB c id = true ↔ ∃ k ∈ (findS c.S id).K, ∃ p, ReachP (nbP c) k p ∧ id ∈ bothP c.R p := by
 unfold withinB
 rw [List.any_eq_true]
 constructor
 ·rintro ⟨p, hp, hid⟩
  obtain ⟨k, hk, hr⟩ := (wayC_mem c _ p).1 hp
  exact ⟨k, hk, p, hr, by simpa using hid⟩
 ·rintro ⟨k, hk, p, hr, hid⟩
  exact ⟨p, (wayC_mem c _ p).2 ⟨k, hk, hr⟩, by simpa using hid⟩
/-- whom a service calls -/
theorem kid_mem (c : ConfD) (a x : Int) : (∃ l ∈ kidsG c a, x ∈ l) ↔ ∃ k ∈ (findS c.S a).K, x ∈ bothP c.R k := by
 unfold kidsG bothP
 constructor
 ·rintro ⟨l, hl, hx⟩
  rcases List.mem_append.1 hl with h | h
  ·obtain ⟨k, hk, rfl⟩ := List.mem_map.1 h
   exact ⟨k, hk, List.mem_append_left _ hx⟩
  ·obtain ⟨k, hk, h2⟩ := List.mem_flatMap.1 h
   obtain ⟨y, hy, rfl⟩ := List.mem_map.1 h2
   rw [List.mem_singleton.1 hx]
   exact ⟨k, hk, List.mem_append_right _ hy⟩
 ·rintro ⟨k, hk, hx⟩
  rcases List.mem_append.1 hx with h | h
  ·exact ⟨_, List.mem_append_left _ (List.mem_map.2 ⟨k, hk, rfl⟩), h⟩
  ·exact ⟨[x], List.mem_append_right _ (List.mem_flatMap.2 ⟨k, hk, List.mem_map.2 ⟨x, h, rfl⟩⟩), List.mem_singleton.2 rfl⟩
theorem reach_iff (c : ConfD) (a x : Int) : Reach (kidsG c) a x ↔ ∃ k ∈ (findS c.S a).K, ∃ p, ReachP (nbP c) k p ∧ x ∈ bothP c.R p := by
 constructor
 ·intro h
  induction h with
  | one h1 h2 =>
   obtain ⟨k, hk, hx⟩ := (kid_mem c _ _).1 ⟨_, h1, h2⟩
   exact ⟨k, hk, k, .refl k, hx⟩
  | step _ h1 h2 ih =>
   obtain ⟨k, hk, p, hr, hb⟩ := ih
   obtain ⟨q, hq, hx⟩ := (kid_mem c _ _).1 ⟨_, h1, h2⟩
   exact ⟨k, hk, q, .step hr (List.mem_flatMap.2 ⟨_, hb, hq⟩), hx⟩
 ·rintro ⟨k, hk, p, hr, hx⟩
  induction hr generalizing x with
  | refl =>
   obtain ⟨l, hl, hm⟩ := (kid_mem c a x).2 ⟨k, hk, hx⟩
   exact .one hl hm
  | step _ h2 ih =>
   obtain ⟨id, hid, hq⟩ := List.mem_flatMap.1 h2
   obtain ⟨l, hl, hm⟩ := (kid_mem c id x).2 ⟨_, hq, hx⟩
   exact .step (ih id hid) hl hm
theorem within_reach (c : ConfD) (id : Int) : withinB c id = true ↔ Reach (kidsG c) id id := (withinB_iff c id).trans (reach_iff c id id).symm
/-! ## times -/
def tickD (R : List RuleD) (p : ByteArray) : Int := (onR R p).foldl (fun n r => if 0 < r.de then max n r.ti else n) 0
def svcT (c : ConfD) (f : ByteArray → Int) (id : Int) : Int := (findS c.S id).K.foldl (fun n k => sumM n (f k)) (2 * c.hop + (findS c.S id).work + 2)
def pathT (c : ConfD) (f : ByteArray → Int) (p : ByteArray) : Int := sumM ((targC c.R p).foldl (fun n id => sumM n (svcT c f id)) ((targS c.R p).foldl (fun n id => max n (svcT c f id)) 0)) (tickD c.R p)
def timeF (c : ConfD) : Nat → ByteArray → Int
 | 0, _ => 0
 | f + 1, p => pathT c (timeF c f) p
/-- there is no way of more than so many calls -/
def Deep (c : ConfD) : Nat → ByteArray → Prop
 | 0, _ => False
 | f + 1, p => ∀ id ∈ bothP c.R p, ∀ k ∈ (findS c.S id).K, Deep c f k
theorem foldl_congr {α β : Type} {f g : β → α → β} : ∀ (l : List α) (n : β), (∀ x ∈ l, ∀ m, f m x = g m x) → l.foldl f n = l.foldl g n
 | [], _, _ => rfl
 | x :: l, n, h => by
  show l.foldl f (f n x) = l.foldl g (g n x)
  rw [h x (List.mem_cons_self ..) n]
  exact foldl_congr l _ fun y hy => h y (List.mem_cons_of_mem _ hy)
theorem svcT_congr (c : ConfD) {f g : ByteArray → Int} (id : Int) (h : ∀ k ∈ (findS c.S id).K, f k = g k) : svcT c f id = svcT c g id := foldl_congr _ _ fun k hk m => by rw [h k hk]
theorem pathT_congr (c : ConfD) {f g : ByteArray → Int} (p : ByteArray) (h : ∀ id ∈ bothP c.R p, ∀ k ∈ (findS c.S id).K, f k = g k) : pathT c f p = pathT c g p := by
 unfold pathT
 have e1 : (targS c.R p).foldl (fun n id => max n (svcT c f id)) 0 = (targS c.R p).foldl (fun n id => max n (svcT c g id)) 0 :=
  foldl_congr _ _ fun id hid m => by rw [svcT_congr c id (h id (List.mem_append_left _ hid))]
 have e2 : ∀ m, (targC c.R p).foldl (fun n id => sumM n (svcT c f id)) m = (targC c.R p).foldl (fun n id => sumM n (svcT c g id)) m := fun m =>
  foldl_congr _ _ fun id hid m => by rw [svcT_congr c id (h id (List.mem_append_right _ hid))]
 rw [e1, e2]
theorem timeF_succ (c : ConfD) : ∀ (f : Nat) (p : ByteArray), Deep c f p → timeF c (f + 1) p = timeF c f p
 | 0, _, h => absurd h id
 | f + 1, p, h => pathT_congr c p fun id hid k hk => timeF_succ c f k (h id hid k hk)
theorem Deep.succ (c : ConfD) : ∀ (f : Nat) (p : ByteArray), Deep c f p → Deep c (f + 1) p
 | 0, _, h => absurd h id
 | f + 1, _, h => fun id hid k hk => Deep.succ c f k (h id hid k hk)
theorem timeF_stay (c : ConfD) {f g : Nat} (p : ByteArray) (hfg : f ≤ g) (h : Deep c f p) : timeF c g p = timeF c f p ∧ Deep c g p := by
 induction hfg with
 | refl => exact ⟨rfl, h⟩
 | step _ ih => exact ⟨(timeF_succ c _ p ih.2).trans ih.1, Deep.succ c _ p ih.2⟩
/-- where it goes deeper, there is a way of as many calls -/
theorem deep_or (c : ConfD) : ∀ (f : Nat) (p : ByteArray), ¬ Deep c (f + 1) p → ∃ id ∈ bothP c.R p, Chain (kidsG c) f id
 | 0, p, h => by
  unfold Deep at h
  have : ∃ id ∈ bothP c.R p, ∃ k ∈ (findS c.S id).K, True := by
   by_cases hn : ∃ id ∈ bothP c.R p, ∃ k ∈ (findS c.S id).K, True
   ·exact hn
   ·exact absurd (fun id hid k hk => absurd ⟨id, hid, k, hk, trivial⟩ hn) h
  obtain ⟨id, hid, -⟩ := this
  exact ⟨id, hid, trivial⟩
 | f + 1, p, h => by
  have : ∃ id ∈ bothP c.R p, ∃ k ∈ (findS c.S id).K, ¬ Deep c (f + 1) k := by
   by_cases hn : ∃ id ∈ bothP c.R p, ∃ k ∈ (findS c.S id).K, ¬ Deep c (f + 1) k
   ·exact hn
   ·refine absurd (fun id hid k hk => ?_) h
    by_cases hd : Deep c (f + 1) k
    ·exact hd
    ·exact absurd ⟨id, hid, k, hk, hd⟩ hn
  obtain ⟨id, hid, k, hk, hd⟩ := this
  obtain ⟨x, hx, hc⟩ := deep_or c f k hd
  obtain ⟨l, hl, hm⟩ := (kid_mem c id x).2 ⟨k, hk, hx⟩
  exact ⟨id, hid, l, hl, x, hm, hc⟩
theorem Path.nodup' (K : Int → List (List Int)) : ∀ (l : List Int), (∀ a ∈ l, ¬ Reach K a a) → Path K l → l.Nodup
 | [], _, _ => List.nodup_nil
 | [a], _, _ => by simp
 | a :: b :: l, hno, h =>
  List.nodup_cons.2 ⟨fun hm => hno a (List.mem_cons_self ..) (Path.reach K (b :: l) a h a hm), Path.nodup' K (b :: l) (fun x hx => hno x (List.mem_cons_of_mem _ hx)) h.2⟩
/-- the services on the way of a path -/
def OnWay (c : ConfD) (p : ByteArray) (id : Int) : Prop := ∃ q, ReachP (nbP c) p q ∧ id ∈ bothP c.R q
theorem OnWay.reach {c : ConfD} {p : ByteArray} {a x : Int} (h : OnWay c p a) (r : Reach (kidsG c) a x) : OnWay c p x := by
 obtain ⟨q, hq, ha⟩ := h
 obtain ⟨k, hk, p', hr, hx⟩ := (reach_iff c a x).1 r
 exact ⟨p', (ReachP.step hq (List.mem_flatMap.2 ⟨a, ha, hk⟩)).ahead hr, hx⟩
/-- where nothing on the way is within itself, times are there -/
theorem deep_of (c : ConfD) (p : ByteArray) (hS : ∀ a, OnWay c p a → a ∈ c.S.map SvcD.id) (hno : ∀ a, OnWay c p a → ¬ Reach (kidsG c) a a) : Deep c (c.S.length + 1) p := by
 by_cases hd : Deep c (c.S.length + 1) p
 ·exact hd
 ·obtain ⟨id, hid, hc⟩ := deep_or c _ p hd
  have hw : OnWay c p id := ⟨p, .refl p, hid⟩
  obtain ⟨l, hl, hp⟩ := Chain.path (kidsG c) _ id hc
  have hall : ∀ x ∈ id :: l, OnWay c p x := fun x hx => by
   rcases List.mem_cons.1 hx with rfl | hx
   ·exact hw
   ·exact hw.reach (Path.reach _ l id hp x hx)
  have := nodup_len (id :: l) (c.S.map SvcD.id) (Path.nodup' _ _ (fun a ha => hno a (hall a ha)) hp) fun x hx => hS x (hall x hx)
  simp at this
  omega
/-! ## alone -/
def openB (R : List RuleD) : Bool := R.any fun r => r.H.isEmpty
def hasEnd (E : List EndD) (id : Int) : Bool := E.any fun e => e.svc == id
def easyB (t : Int) (r : RuleD) : Bool := decide (r.ab ≤ 0) && decide (r.rate ≤ 0) && decide (t ≤ r.q0)
def plainB (c : ConfD) (t : Int) (p : ByteArray) : Bool := (onR c.R p).all (easyB t) && ((targS c.R p).all (hasEnd c.E) && openB (onR c.R p))
def callsN (c : ConfD) (p : ByteArray) (id : Int) : Int := (targC c.R p).foldl (fun n x => sumM n (lvl (kidsG c) id 10 x)) (great (targS c.R p) (lvl (kidsG c) id 10))
def roomS (c : ConfD) (p : ByteArray) (s : SvcD) : Bool := decide (callsN c p s.id ≤ s.queue) && decide (callsN c p s.id ≤ c.low + c.wait)
def roomB (c : ConfD) (p : ByteArray) : Bool := c.S.all (roomS c p)
def circleB (c : ConfD) (ps : List ByteArray) : Bool := ps.any fun p => (bothP c.R p).any (withinB c)
def timeC (c : ConfD) (p : ByteArray) : Int := timeF c (c.S.length + 1) p
def aloneC (c : ConfD) (p : ByteArray) : Int × Bool :=
 if circleB c (wayC c [p]) = true then (0, false)
 else if c.life < timeC c p then (0, false)
 else if roomB c p = false then (0, false)
 else if (wayC c [p]).all (plainB c (timeC c p)) = true then (timeC c p, true) else (0, false)
end Go.Proofs.YtceaeiaoanhlnaaGreatDoor
