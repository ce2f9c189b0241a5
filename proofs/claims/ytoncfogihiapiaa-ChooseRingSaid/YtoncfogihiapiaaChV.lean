/- The reference's row of a ring is the ring's: plain laws. -/
import Derived.Test.YtoncfogihiapiaaChT
namespace Go.Proofs.Ytoncfogihiapiaa
open Go.ChangeShapes Go.WideShapes Go.ChangeAt Go.RowKit Go.Maps Go.Shelf
/-- how far a point is behind a key -/
def dK (key z : Int) : Int := (z - key) % 18446744073709551616
def ptK (id : Int) (k : Nat) : Int := mix (mix 0 (w64 id)) (k : Int)
theorem ptK_bd (id : Int) (k : Nat) : 0 ≤ ptK id k ∧ ptK id k ≤ 18446744073709551615 := mix_bd _ _
def farUp (key id : Int) : Nat → Int
  | 0 => 0
  | 1 => dK key (ptK id 0)
  | k + 2 => if dK key (ptK id (k + 1)) < farUp key id (k + 1) then dK key (ptK id (k + 1)) else farUp key id (k + 1)
theorem farUp_min (key id : Int) (n : Nat) (hn : 0 < n) : (∃ j, j < n ∧ farUp key id n = dK key (ptK id j)) ∧ ∀ j, j < n → farUp key id n ≤ dK key (ptK id j) := by
  induction n with
  | zero => omega
  | succ n ih =>
    cases n with
    | zero => exact ⟨⟨0, by omega, rfl⟩, fun j hj => by obtain rfl : j = 0 := by omega
                                                        exact Int.le_refl _⟩
    | succ n =>
      obtain ⟨⟨j, hj, h1⟩, h2⟩ := ih (by omega)
      unfold farUp
      by_cases h : dK key (ptK id (n + 1)) < farUp key id (n + 1)
      · rw [if_pos h]
        refine ⟨⟨n + 1, by omega, rfl⟩, fun i hi => ?_⟩
        by_cases e : i = n + 1
        · subst e; exact Int.le_refl _
        · have := h2 i (by omega); omega
      · rw [if_neg h]
        refine ⟨⟨j, by omega, h1⟩, fun i hi => ?_⟩
        by_cases e : i = n + 1
        · subst e; omega
        · exact h2 i (by omega)
/-- who comes first behind a key -/
def RK (f : Int → Int) (x y : Int) : Prop := f x < f y ∨ f x = f y ∧ x < y
theorem RK_ext (f : Int → Int) {l1 l2 : List Int} (h1 : l1.Pairwise (RK f)) (h2 : l2.Pairwise (RK f)) (h : ∀ x, x ∈ l1 ↔ x ∈ l2) : l1 = l2 := by
  have n1 : l1.Nodup := h1.imp (fun {a b} h => by unfold RK at h; intro e; subst e; omega)
  have n2 : l2.Nodup := h2.imp (fun {a b} h => by unfold RK at h; intro e; subst e; omega)
  exact List.Perm.eq_of_pairwise (le := RK f) (fun a b _ _ h h' => by unfold RK at h h'; omega) h1 h2 ((List.perm_ext_iff_of_nodup n1 n2).2 h)
/-- the order of points behind a key -/
def leD (key : Int) (x y : Int × Int) : Prop := dK key x.1 < dK key y.1 ∨ dK key x.1 = dK key y.1 ∧ x.2 ≤ y.2
theorem rotK_leD (key : Int) (hk : 0 ≤ key ∧ key ≤ 18446744073709551615) (P : List (Int × Int)) (hP : P.Pairwise (fun x y => leP x y = true)) (hb : ∀ x ∈ P, 0 ≤ x.1 ∧ x.1 ≤ 18446744073709551615) : (rotK key P).Pairwise (leD key) := by
  unfold rotK
  rw [List.pairwise_append]
  have hge : ∀ z : Int, key ≤ z → z ≤ 18446744073709551615 → dK key z = z - key := fun z h1 h2 => by
    unfold dK; rw [Int.emod_eq_of_lt (by omega) (by omega)]
  have hlt : ∀ z : Int, 0 ≤ z → z < key → dK key z = z - key + 18446744073709551616 := fun z h1 h2 => by
    unfold dK; omega
  refine ⟨?_, ?_, ?_⟩
  · refine (List.Pairwise.and_mem.1 (hP.filter _)).imp ?_
    rintro x y ⟨hx, hy, h⟩
    rw [List.mem_filter] at hx hy
    have bx := hb x hx.1; have by' := hb y hy.1
    have cx : key ≤ x.1 := by have := hx.2; simp at this; omega
    have cy : key ≤ y.1 := by have := hy.2; simp at this; omega
    rw [leP_iff] at h
    unfold leD
    rw [hge _ cx bx.2, hge _ cy by'.2]
    omega
  · refine (List.Pairwise.and_mem.1 (hP.filter _)).imp ?_
    rintro x y ⟨hx, hy, h⟩
    rw [List.mem_filter] at hx hy
    have bx := hb x hx.1; have by' := hb y hy.1
    have cx : x.1 < key := by have := hx.2; simpa using this
    have cy : y.1 < key := by have := hy.2; simpa using this
    rw [leP_iff] at h
    unfold leD
    rw [hlt _ bx.1 cx, hlt _ by'.1 cy]
    omega
  · intro x hx y hy
    rw [List.mem_filter] at hx hy
    have bx := hb x hx.1; have by' := hb y hy.1
    have cx : key ≤ x.1 := by have := hx.2; simp at this; omega
    have cy : y.1 < key := by have := hy.2; simpa using this
    unfold leD
    rw [hge _ cx bx.2, hlt _ by'.1 cy]
    omega
theorem firsts_RK (key : Int) (f : Int → Int) (Q : List (Int × Int)) (hQ : Q.Pairwise (leD key)) (h1 : ∀ x ∈ Q, f x.2 ≤ dK key x.1) (h2 : ∀ x ∈ Q, ∃ y ∈ Q, y.2 = x.2 ∧ f x.2 = dK key y.1) : (firsts (Q.map Prod.snd)).Pairwise (RK f) := by
  have key' : ∀ (l r : List (Int × Int)), Q = l ++ r → (firsts (l.map Prod.snd)).Pairwise (RK f) := by
    intro l
    induction l using snoc_ind with
    | h0 => intro r _; simp [firsts]
    | hs l x ih =>
      intro r hr
      have ihl := ih (x :: r) (by rw [hr]; simp)
      rw [List.map_append]
      show (firsts (l.map Prod.snd ++ [x.2])).Pairwise (RK f)
      rw [firsts_snoc]
      unfold addF
      by_cases hm : x.2 ∈ firsts (l.map Prod.snd)
      · rw [if_pos hm]; exact ihl
      · rw [if_neg hm, List.pairwise_append]
        refine ⟨ihl, by simp, fun a ha b hb => ?_⟩
        rw [List.mem_singleton.1 hb]
        rw [firsts_mem] at ha hm
        obtain ⟨z, hz, rfl⟩ := List.mem_map.1 ha
        have hxQ : x ∈ Q := by rw [hr]; simp
        have hzQ : z ∈ Q := by rw [hr]; simp [hz]
        obtain ⟨y, hyQ, hy2, hfy⟩ := h2 x hxQ
        -- y stands at x or behind it
        have hyx : y = x ∨ leD key x y := by
          rw [hr, List.append_assoc] at hyQ hQ
          rw [List.pairwise_append] at hQ
          rcases List.mem_append.1 hyQ with h | h
          · exact absurd (hy2 ▸ List.mem_map_of_mem (f := Prod.snd) h) hm
          · simp only [List.singleton_append] at h hQ
            rcases List.mem_cons.1 h with h | h
            · exact .inl h
            · exact .inr ((List.pairwise_cons.1 hQ.2.1).1 y h)
        have hzx : leD key z x := by
          rw [hr, List.append_assoc, List.pairwise_append] at hQ
          exact hQ.2.2 z hz x (by simp)
        have hfz := h1 z hzQ
        have hfx := h1 x hxQ
        have hne : z.2 ≠ x.2 := fun e => hm (e ▸ ha)
        unfold leD at hyx hzx
        unfold RK
        rcases hyx with rfl | hyx <;> omega
  have := key' Q [] (by simp)
  exact this
def farI (key : Int) (p : Nat) (id : Int) : Int := farUp key id p
theorem rowOf_RK (key : Int) (hk : 0 ≤ key ∧ key ≤ 18446744073709551615) (p : Nat) (hp : 0 < p) (ids : List Int) : (rowOf key (pointsOf p ids)).Pairwise (RK (farI key p)) := by
  have hmem : ∀ x ∈ pointsOf p ids, ∃ k, k < p ∧ x.1 = ptK x.2 k ∧ x.2 ∈ ends ids := by
    intro x hx
    unfold pointsOf at hx
    rw [(srtP_perm _).mem_iff] at hx
    unfold raw at hx
    obtain ⟨e, he, hx⟩ := List.mem_flatMap.1 hx
    unfold ptsOf at hx
    obtain ⟨k, hk, rfl⟩ := List.mem_map.1 hx
    exact ⟨k, by simpa using hk, rfl, he⟩
  have hin : ∀ (e : Int) (k : Nat), e ∈ ends ids → k < p → (ptK e k, e) ∈ pointsOf p ids := by
    intro e k he hk
    unfold pointsOf
    rw [(srtP_perm _).mem_iff]
    unfold raw
    refine List.mem_flatMap.2 ⟨e, he, ?_⟩
    unfold ptsOf
    exact List.mem_map.2 ⟨k, by simpa using hk, rfl⟩
  unfold rowOf
  refine firsts_RK key (farI key p) _ (rotK_leD key hk _ (points_sorted p ids) ?_) ?_ ?_
  · intro x hx
    obtain ⟨k, _, h, _⟩ := hmem x hx
    rw [h]; exact ptK_bd _ _
  · intro x hx
    rw [rotK_mem] at hx
    obtain ⟨k, hk, h, _⟩ := hmem x hx
    rw [h]; exact (farUp_min key x.2 p hp).2 k hk
  · intro x hx
    rw [rotK_mem] at hx
    obtain ⟨k, hk, h, he⟩ := hmem x hx
    obtain ⟨⟨j, hj, hf⟩, _⟩ := farUp_min key x.2 p hp
    exact ⟨(ptK x.2 j, x.2), by rw [rotK_mem]; exact hin x.2 j he hj, rfl, hf⟩
/-- a row of the same endpoints, each behind those that are nearer, is the ring's -/
theorem rowOf_unique (key : Int) (hk : 0 ≤ key ∧ key ≤ 18446744073709551615) (p : Nat) (hp : 0 < p) (ids T : List Int) (h1 : T.Pairwise (RK (farI key p))) (h2 : ∀ x, x ∈ T ↔ x ∈ ids) : T = rowOf key (pointsOf p ids) :=
  RK_ext _ h1 (rowOf_RK key hk p hp ids) (fun x => by rw [h2, rowOf_mem key p hp])
/-- put in ahead of the first that does not come first -/
theorem ins_RK (f : Int → Int) (T : List Int) (x : Int) (q : Nat) (hT : T.Pairwise (RK f)) (hx : x ∉ T) (h1 : ∀ y ∈ T.take q, RK f y x) (h2 : ∀ h : q < T.length, ¬ RK f T[q] x) : (T.take q ++ [x] ++ T.drop q).Pairwise (RK f) := by
  have hxd : ∀ y ∈ T.drop q, RK f x y := by
    intro y hy
    have hq : q < T.length := by
      by_cases h : q < T.length
      · exact h
      · rw [List.drop_eq_nil_of_le (by omega)] at hy; simp at hy
    have hnq := h2 hq
    have hne : T[q] ≠ x := fun e => hx (e ▸ List.getElem_mem hq)
    have hxq : RK f x T[q] := by unfold RK at *; omega
    have hd : T.drop q = T[q] :: T.drop (q + 1) := List.drop_eq_getElem_cons hq
    have hp : (T.drop q).Pairwise (RK f) := hT.sublist (List.drop_sublist q T)
    rw [hd] at hy hp
    rcases List.mem_cons.1 hy with rfl | hy
    · exact hxq
    · have := (List.pairwise_cons.1 hp).1 y hy
      unfold RK at *; omega
  rw [List.append_assoc, List.pairwise_append]
  refine ⟨hT.sublist (List.take_sublist q T), ?_, ?_⟩
  · exact List.pairwise_cons.2 ⟨hxd, hT.sublist (List.drop_sublist q T)⟩
  · intro a ha b hb
    rcases List.mem_cons.1 hb with rfl | hb
    · exact h1 a ha
    · have hp := hT
      rw [← List.take_append_drop q T, List.pairwise_append] at hp
      exact hp.2.2 a ha b hb
theorem ins_mem (T : List Int) (x : Int) (q : Nat) (y : Int) : y ∈ T.take q ++ [x] ++ T.drop q ↔ y ∈ T ∨ y = x := by
  have h : y ∈ T ↔ y ∈ T.take q ∨ y ∈ T.drop q := by rw [← List.mem_append, List.take_append_drop]
  simp only [List.mem_append, List.mem_singleton]
  rw [h]
  constructor
  · rintro ((h | h) | h)
    · exact .inl (.inl h)
    · exact .inr h
    · exact .inl (.inr h)
  · rintro ((h | h) | h)
    · exact .inl (.inl h)
    · exact .inr h
    · exact .inl (.inr h)
end Go.Proofs.Ytoncfogihiapiaa
