/- Merged texts (GpB, GpE). -/
import Derived.Test.YtmpciohmljpncaaGreatDoorZgs
namespace Go.Proofs.YtmpciohmljpncaaGreatDoor
open Go.ChangeShapes Go.WideShapes Go.ChangeAt Go.RowKit Go.Lib Go.Shelf
theorem great_congr {f g : Int → Int} : ∀ (l : List Int) (n : Int), (∀ x ∈ l, f x = g x) → l.foldl (fun n x => max n (f x)) n = l.foldl (fun n x => max n (g x)) n
 | [], _, _ => rfl
 | x :: l, n, h => by
  show l.foldl _ (max n (f x)) = l.foldl _ (max n (g x))
  rw [h x (List.mem_cons_self ..)]
  exact great_congr l _ fun y hy => h y (List.mem_cons_of_mem _ hy)
/-- is there a way of so many calls from a service? -/
def Chain (K : Int → List (List Int)) : Nat → Int → Prop
 | 0, _ => True
 | d + 1, id => ∃ l ∈ K id, ∃ x ∈ l, Chain K d x
theorem Chain.pred (K : Int → List (List Int)) : ∀ (d : Nat) (id : Int), Chain K (d + 1) id → Chain K d id
 | 0, _, _ => trivial
 | d + 1, _, ⟨l, hl, x, hx, h⟩ => ⟨l, hl, x, hx, Chain.pred K d x h⟩
theorem Chain.le (K : Int → List (List Int)) {d e : Nat} (h : d ≤ e) (id : Int) (c : Chain K e id) : Chain K d id := by
 induction h with
 | refl => exact c
 | step h ih => exact ih (Chain.pred K _ id c)
/-- a service is called on the way from another one -/
inductive Reach (K : Int → List (List Int)) : Int → Int → Prop where
 | one {a x : Int} {l : List Int} : l ∈ K a → x ∈ l → Reach K a x
 | step {a b x : Int} {l : List Int} : Reach K a b → l ∈ K b → x ∈ l → Reach K a x
/-- a way as a list -/
def Path (K : Int → List (List Int)) : List Int → Prop
 | [] => True
 | [_] => True
 | a :: b :: l => (∃ m ∈ K a, b ∈ m) ∧ Path K (b :: l)
theorem Chain.path (K : Int → List (List Int)) : ∀ (d : Nat) (id : Int), Chain K d id → ∃ l, l.length = d ∧ Path K (id :: l)
 | 0, _, _ => ⟨[], rfl, trivial⟩
 | d + 1, _, ⟨m, hm, x, hx, h⟩ => by
  obtain ⟨l, hl, hp⟩ := Chain.path K d x h
  exact ⟨x :: l, by simp [hl], ⟨m, hm, hx⟩, hp⟩
theorem Reach.ahead {K : Int → List (List Int)} {a b x : Int} (h : Reach K a b) (k : Reach K b x) : Reach K a x := by
 induction k with
 | one h1 h2 => exact .step h h1 h2
 | step _ h1 h2 ih => exact .step ih h1 h2
theorem Path.reach (K : Int → List (List Int)) : ∀ (l : List Int) (a : Int), Path K (a :: l) → ∀ x ∈ l, Reach K a x
 | [], _, _, x, hx => by cases hx
 | b :: l, a, ⟨⟨m, hm, hb⟩, hp⟩, x, hx => by
  rcases List.mem_cons.1 hx with rfl | hx
  ·exact .one hm hb
  ·exact Reach.ahead (.one hm hb) (Path.reach K l b hp x hx)
theorem Path.in (K : Int → List (List Int)) (S : List Int) (hS : ∀ a, ∀ m ∈ K a, ∀ x ∈ m, a ∈ S ∧ x ∈ S) : ∀ (l : List Int) (a : Int), 0 < l.length → Path K (a :: l) → ∀ x ∈ a :: l, x ∈ S
 | [], _, h, _, _, _ => absurd h (by simp)
 | [b], a, _, ⟨⟨m, hm, hb⟩, _⟩, x, hx => by
  have := hS a m hm b hb
  rcases List.mem_cons.1 hx with rfl | hx
  ·exact this.1
  ·rw [List.mem_singleton.1 hx]; exact this.2
 | b :: c :: l, a, _, ⟨⟨m, hm, hb⟩, hp⟩, x, hx => by
  have := hS a m hm b hb
  rcases List.mem_cons.1 hx with rfl | hx
  ·exact this.1
  ·exact Path.in K S hS (c :: l) b (by simp) hp x hx
theorem nodup_len : ∀ (l S : List Int), l.Nodup → (∀ x ∈ l, x ∈ S) → l.length ≤ S.length
 | [], _, _, _ => Nat.zero_le _
 | a :: l, S, h, hs => by
  have h1 := List.nodup_cons.1 h
  have hm := hs a (List.mem_cons_self ..)
  have := nodup_len l (S.erase a) h1.2 fun x hx => (List.mem_erase_of_ne (fun (e : x = a) => h1.1 (by rw [← e]; exact hx))).2 (hs x (List.mem_cons_of_mem _ hx))
  rw [List.length_erase_of_mem hm] at this
  have h0 : 0 < S.length := List.length_pos_of_mem hm
  simp
  omega
/-! ## a bound of the load -/
def sumG (K : List (List Int)) (f : Int → Int) : Int := (K.map fun l => great l f).sum
theorem sumG_nn (f : Int → Int) : ∀ (K : List (List Int)), 0 ≤ sumG K f
 | [] => Int.le_refl 0
 | l :: K => by
  have := sumG_nn f K
  have := great_nn f l
  show 0 ≤ great l f + sumG K f
  omega
/-- all together, at most Most -/
theorem stp_sum (f : Int → Int) : ∀ (K : List (List Int)) (n : Int), n ≤ mostN → stpN K n f = min (n + sumG K f) mostN
 | [], n, h => by
  show n = min (n + 0) mostN
  omega
 | l :: K, n, h => by
  have h1 := sumG_nn f K
  have h2 := great_nn f l
  show stpN K (min (n + great l f) mostN) f = min (n + (great l f + sumG K f)) mostN
  rw [stp_sum f K _ (by omega)]
  omega
def partM (n num : Int) : Int := min (n * num) mostN
end Go.Proofs.YtmpciohmljpncaaGreatDoor
namespace Go.Proofs.YtmpciohmljpncaaGreatDoor
open Go.ChangeShapes Go.WideShapes Go.ChangeAt Go.RowKit Go.Lib Go.Shelf
def bothP (R : List RuleD) (p : ByteArray) : List Int := targS R p ++ targC R p
theorem findS_mem {S : List SvcD} {id : Int} {p : ByteArray} (h : p ∈ (findS S id).K) : findS S id ∈ S ∧ (findS S id).id = id := by
 unfold findS at h ⊢
 cases hf : S.find? (fun s => s.id == id) with
 | none => rw [hf] at h; cases h
 | some s =>
  have h1 := List.mem_of_find?_eq_some hf
  have h2 := List.find?_some hf
  exact ⟨h1, by simpa using h2⟩
/-- whom a service calls -/
theorem kid_mem (c : ConfD) (a x : Int) : (∃ l ∈ kidsG c a, x ∈ l) ↔ ∃ k ∈ (findS c.S a).K, x ∈ bothP c.R k := by
 unfold kidsG bothP
 constructor
 ·rintro ⟨l, hl, hx⟩
  rcases List.mem_append.1 hl with h | h
  ·obtain ⟨k, hk, rfl⟩ := List.mem_map.1 h
   exact ⟨k, hk, List.mem_append_left _ hx⟩
  ·obtain ⟨k, hk, h2⟩ := List.mem_flatMap.1 h
   obtain ⟨y, hy, rfl⟩ := List.mem_map.1 h2
   rw [List.mem_singleton.1 hx]
   exact ⟨k, hk, List.mem_append_right _ hy⟩
 ·rintro ⟨k, hk, hx⟩
  rcases List.mem_append.1 hx with h | h
  ·exact ⟨_, List.mem_append_left _ (List.mem_map.2 ⟨k, hk, rfl⟩), h⟩
  ·exact ⟨[x], List.mem_append_right _ (List.mem_flatMap.2 ⟨k, hk, List.mem_map.2 ⟨x, h, rfl⟩⟩), List.mem_singleton.2 rfl⟩
/-! ## times -/
/-- there is no way of more than so many calls -/
def Deep (c : ConfD) : Nat → ByteArray → Prop
 | 0, _ => False
 | f + 1, p => ∀ id ∈ bothP c.R p, ∀ k ∈ (findS c.S id).K, Deep c f k
theorem Deep.succ (c : ConfD) : ∀ (f : Nat) (p : ByteArray), Deep c f p → Deep c (f + 1) p
 | 0, _, h => absurd h id
 | f + 1, _, h => fun id hid k hk => Deep.succ c f k (h id hid k hk)
/-! ## alone -/
end Go.Proofs.YtmpciohmljpncaaGreatDoor
