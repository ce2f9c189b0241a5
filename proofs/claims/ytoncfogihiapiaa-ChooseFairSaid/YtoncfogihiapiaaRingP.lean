
/- The ring in plain Lean: ends, points, the row behind a key. -/
import Derived.Lib.SlicesCompact
import Derived.Shelf.SlSortCmp.Insertion
import Derived.Test.YtoncfogihiapiaaClos
namespace Go.Proofs.Ytoncfogihiapiaa
open Go.RowKit Go.Lib

/-! the order of points -/
def ltP (x y : Int × Int) : Bool := decide (x.1 < y.1 ∨ x.1 = y.1 ∧ x.2 < y.2)
theorem ltOf_cfP (x y : Int × Int) : ltOf cfP x y = ltP x y := by
  unfold ltOf cfP orI cmpI ltP
  by_cases h1 : x.1 < y.1
  · simp [h1]
  · by_cases h2 : y.1 < x.1
    · have : x.1 ≠ y.1 := by omega
      simp [h1, h2, this]
    · have : x.1 = y.1 := by omega
      by_cases h3 : x.2 < y.2
      · simp [this, h3]
      · by_cases h4 : y.2 < x.2 <;> simp [this, h3, h4]
def leP (x y : Int × Int) : Bool := !ltP y x
theorem leP_iff (x y : Int × Int) : leP x y = true ↔ (x.1 < y.1 ∨ x.1 = y.1 ∧ x.2 ≤ y.2) := by
  unfold leP ltP; simp; omega
theorem leP_trans (a b c : Int × Int) (h1 : leP a b = true) (h2 : leP b c = true) : leP a c = true := by rw [leP_iff] at *; omega
theorem leP_total (a b : Int × Int) : (leP a b || leP b a) = true := by rw [Bool.or_eq_true, leP_iff, leP_iff]; omega
theorem leP_anti (a b : Int × Int) (h1 : leP a b = true) (h2 : leP b a = true) : a = b := by
  rw [leP_iff] at *
  exact Prod.ext (by omega) (by omega)
def srtP (l : List (Int × Int)) : List (Int × Int) := l.mergeSort leP
theorem srtP_perm (l : List (Int × Int)) : (srtP l).Perm l := List.mergeSort_perm l leP
theorem srtP_sorted (l : List (Int × Int)) : (srtP l).Pairwise (fun x y => leP x y = true) := List.pairwise_mergeSort leP_trans leP_total l
theorem srtP_unique {l s : List (Int × Int)} (h : s.Perm l) (hs : s.Pairwise (fun x y => leP x y = true)) : srtP l = s :=
  List.Perm.eq_of_pairwise (le := fun x y => leP x y = true) (fun a b _ _ => leP_anti a b) (srtP_sorted l) hs ((srtP_perm l).trans h.symm)
theorem srtP_filter (q : Int × Int → Bool) (l : List (Int × Int)) : srtP (l.filter q) = (srtP l).filter q :=
  srtP_unique ((srtP_perm l).filter q) ((srtP_sorted l).filter q)

/-! the ends -/
def srtI (l : List Int) : List Int := l.mergeSort fun x y => decide (x ≤ y)
theorem srtI_perm (l : List Int) : (srtI l).Perm l := List.mergeSort_perm l _
theorem srtI_sorted (l : List Int) : (srtI l).Pairwise (fun x y => x ≤ y) := by
  have h := List.pairwise_mergeSort (le := fun x y : Int => decide (x ≤ y)) (fun a b c h1 h2 => by simp at *; omega) (fun a b => by simp; omega) l
  exact h.imp (by simp)
def ends (ids : List Int) : List Int := compact (srtI ids)
theorem compact_inv (zs : List Int) (hz : zs.Pairwise (fun x y => x ≤ y)) (m : Nat) (hm : m ≤ zs.length) :
    (compactUpTo zs.toArray m).Pairwise (fun x y => x < y) ∧ (∀ x ∈ compactUpTo zs.toArray m, ∃ j, j < m ∧ x = zs.toArray[j]!) ∧ (∀ j, j < m → zs.toArray[j]! ∈ compactUpTo zs.toArray m) := by
  have hle : ∀ i j, i ≤ j → j < zs.length → zs.toArray[i]! ≤ zs.toArray[j]! := by
    intro i j hij hj
    rcases Nat.lt_or_eq_of_le hij with h | h
    · have := List.pairwise_iff_getElem.1 hz i j (by omega) hj h
      simpa [hj, (by omega : i < zs.length)] using this
    · subst h; omega
  induction m with
  | zero => exact ⟨by simp [compactUpTo], fun x hx => by simp [compactUpTo] at hx, fun j hj => by omega⟩
  | succ m ih =>
    obtain ⟨h1, h2, h3⟩ := ih (by omega)
    rw [compactUpTo_succ]
    by_cases hk : keeps zs.toArray m = true
    · rw [if_pos hk]
      refine ⟨List.pairwise_append.2 ⟨h1, by simp, ?_⟩, ?_, ?_⟩
      · intro x hx y hy
        rw [List.mem_singleton.1 hy]
        obtain ⟨j, hj, rfl⟩ := h2 x hx
        have hm0 : m ≠ 0 := by omega
        have hne : zs.toArray[m]! ≠ zs.toArray[m-1]! := by
          unfold keeps at hk
          simp only [hm0, false_or, decide_eq_true_eq] at hk
          exact hk
        have a1 := hle j (m-1) (by omega) (by omega)
        have a2 := hle (m-1) m (by omega) (by omega)
        omega
      · intro x hx
        rcases List.mem_append.1 hx with h | h
        · obtain ⟨j, hj, e⟩ := h2 x h; exact ⟨j, by omega, e⟩
        · exact ⟨m, by omega, List.mem_singleton.1 h⟩
      · intro j hj
        by_cases hjm : j = m
        · subst hjm; simp
        · exact List.mem_append_left _ (h3 j (by omega))
    · rw [if_neg hk, List.append_nil]
      refine ⟨h1, fun x hx => ?_, fun j hj => ?_⟩
      · obtain ⟨j, hj, e⟩ := h2 x hx; exact ⟨j, by omega, e⟩
      · by_cases hjm : j = m
        · subst hjm
          have hj0 : j ≠ 0 := fun e => hk (by subst e; simp [keeps])
          have he : zs.toArray[j]! = zs.toArray[j-1]! := by
            unfold keeps at hk
            simp only [hj0, false_or, decide_eq_true_eq] at hk
            exact Classical.not_not.1 hk
          rw [he]
          exact h3 (j-1) (by omega)
        · exact h3 j (by omega)
theorem ends_sorted (ids : List Int) : (ends ids).Pairwise (fun x y => x < y) := (compact_inv (srtI ids) (srtI_sorted ids) _ (Nat.le_refl _)).1
theorem ends_mem (ids : List Int) (x : Int) : x ∈ ends ids ↔ x ∈ ids := by
  have h := compact_inv (srtI ids) (srtI_sorted ids) _ (Nat.le_refl _)
  rw [← (srtI_perm ids).mem_iff]
  constructor
  · intro hx
    obtain ⟨j, hj, rfl⟩ := h.2.1 x hx
    simp [hj]
  · intro hx
    obtain ⟨j, hj, rfl⟩ := List.getElem_of_mem hx
    have := h.2.2 j hj
    simpa [hj, ends, compact] using this
theorem sorted_ext {l1 l2 : List Int} (h1 : l1.Pairwise (fun x y => x < y)) (h2 : l2.Pairwise (fun x y => x < y)) (h : ∀ x, x ∈ l1 ↔ x ∈ l2) : l1 = l2 := by
  have n1 : l1.Nodup := h1.imp (fun a => by omega)
  have n2 : l2.Nodup := h2.imp (fun a => by omega)
  exact List.Perm.eq_of_pairwise (le := fun x y : Int => x < y) (fun a b _ _ h h' => by omega) h1 h2 ((List.perm_ext_iff_of_nodup n1 n2).2 h)
theorem ends_nodup (ids : List Int) : (ends ids).Nodup := (ends_sorted ids).imp (fun a => by omega)
theorem ends_congr {a b : List Int} (h : ∀ x, x ∈ a ↔ x ∈ b) : ends a = ends b :=
  sorted_ext (ends_sorted a) (ends_sorted b) (fun x => by rw [ends_mem, ends_mem]; exact h x)
theorem ends_filter (q : Int → Bool) (ids : List Int) : ends (ids.filter q) = (ends ids).filter q :=
  sorted_ext (ends_sorted _) ((ends_sorted ids).filter q) (fun x => by simp [ends_mem])

/-! the points -/
def ptsOf (p : Nat) (id : Int) : List (Int × Int) := (List.range p).map fun k : Nat => (mix (mix 0 (w64 id)) (k : Int), id)
def raw (p : Nat) (E : List Int) : List (Int × Int) := E.flatMap (ptsOf p)
def pointsOf (p : Nat) (ids : List Int) : List (Int × Int) := srtP (raw p (ends ids))
theorem raw_filter (p : Nat) (q : Int → Bool) (E : List Int) : raw p (E.filter q) = (raw p E).filter (fun x => q x.2) := by
  unfold raw
  induction E with
  | nil => rfl
  | cons e E ih =>
    have h : (ptsOf p e).filter (fun x => q x.2) = if q e then ptsOf p e else [] := by
      by_cases hq : q e = true
      · rw [if_pos hq]; exact List.filter_eq_self.2 (fun x hx => by
          simp only [ptsOf, List.mem_map] at hx
          obtain ⟨k, _, rfl⟩ := hx
          exact hq)
      · rw [if_neg hq]; exact List.filter_eq_nil_iff.2 (fun x hx => by
          simp only [ptsOf, List.mem_map] at hx
          obtain ⟨k, _, rfl⟩ := hx
          exact hq)
    rw [List.flatMap_cons, List.filter_append, h, ← ih]
    by_cases hq : q e = true
    · simp [hq]
    · simp [hq]
theorem points_filter (p : Nat) (q : Int → Bool) (ids : List Int) : pointsOf p (ids.filter q) = (pointsOf p ids).filter (fun x => q x.2) := by
  unfold pointsOf; rw [ends_filter, raw_filter, srtP_filter]
theorem points_mem (p : Nat) (hp : 0 < p) (ids : List Int) (x : Int) : x ∈ (pointsOf p ids).map Prod.snd ↔ x ∈ ids := by
  rw [← ends_mem ids x]
  simp only [List.mem_map, pointsOf, (srtP_perm _).mem_iff, raw, List.mem_flatMap, ptsOf, List.mem_range]
  constructor
  · rintro ⟨y, ⟨e, he, k, hk, rfl⟩, rfl⟩; exact he
  · intro hx; exact ⟨_, ⟨x, hx, 0, hp, rfl⟩, rfl⟩

/-! once round -/
def rotK (key : Int) (P : List (Int × Int)) : List (Int × Int) := P.filter (fun x => !decide (x.1 < key)) ++ P.filter (fun x => decide (x.1 < key))
theorem rotK_filter (key : Int) (q : Int × Int → Bool) (P : List (Int × Int)) : rotK key (P.filter q) = (rotK key P).filter q := by
  unfold rotK
  simp [List.filter_append, Bool.and_comm]
theorem rotK_mem (key : Int) (P : List (Int × Int)) (x : Int × Int) : x ∈ rotK key P ↔ x ∈ P := by
  unfold rotK
  simp only [List.mem_append, List.mem_filter]
  by_cases h : x.1 < key <;> simp [h]
def cntK (key : Int) (P : List (Int × Int)) : Nat := P.countP (fun x => decide (x.1 < key))
theorem sorted_split (key : Int) (P : List (Int × Int)) (hP : P.Pairwise (fun x y => leP x y = true)) : P.take (cntK key P) = P.filter (fun x => decide (x.1 < key)) ∧ P.drop (cntK key P) = P.filter (fun x => !decide (x.1 < key)) := by
  induction P with
  | nil => simp [cntK]
  | cons a P ih =>
    have ha := List.pairwise_cons.1 hP
    by_cases h : a.1 < key
    · have := ih ha.2
      have hc : cntK key (a :: P) = cntK key P + 1 := by unfold cntK; simp [h]
      rw [hc]
      simp [h, this.1, this.2]
    · have hall : ∀ y ∈ P, ¬ y.1 < key := fun y hy hlt => by
        have := (leP_iff a y).1 (ha.1 y hy); omega
      have hc : cntK key (a :: P) = 0 := by
        unfold cntK
        rw [List.countP_eq_zero]
        intro y hy
        rcases List.mem_cons.1 hy with rfl | hy
        · simpa using h
        · simpa using hall y hy
      rw [hc]
      constructor
      · rw [List.take_zero, eq_comm, List.filter_eq_nil_iff]
        intro y hy
        rcases List.mem_cons.1 hy with rfl | hy
        · simpa using h
        · simpa using hall y hy
      · rw [List.drop_zero, eq_comm, List.filter_eq_self]
        intro y hy
        rcases List.mem_cons.1 hy with rfl | hy
        · simpa using h
        · simpa using hall y hy
theorem rotK_drop (key : Int) (P : List (Int × Int)) (hP : P.Pairwise (fun x y => leP x y = true)) : rotK key P = P.drop (cntK key P) ++ P.take (cntK key P) := by
  have h := sorted_split key P hP
  rw [h.1, h.2]; rfl
theorem cntK_le (key : Int) (P : List (Int × Int)) : cntK key P ≤ P.length := List.countP_le_length
theorem rotK_length (key : Int) (P : List (Int × Int)) (hP : P.Pairwise (fun x y => leP x y = true)) : (rotK key P).length = P.length := by
  rw [rotK_drop key P hP, List.length_append, List.length_drop, List.length_take]
  have := cntK_le key P
  omega
theorem rotK_get (key : Int) (P : List (Int × Int)) (hP : P.Pairwise (fun x y => leP x y = true)) (i : Nat) (hi : i < P.length) :
    (rotK key P)[i]? = P[(cntK key P + i) % P.length]? := by
  have hc := cntK_le key P
  rw [rotK_drop key P hP]
  by_cases h : i < P.length - cntK key P
  · rw [List.getElem?_append_left (by rw [List.length_drop]; exact h), List.getElem?_drop, Nat.mod_eq_of_lt (by omega)]
  · rw [List.getElem?_append_right (by rw [List.length_drop]; omega), List.length_drop, List.getElem?_take_of_lt (by omega)]
    congr 1
    have e : cntK key P + i = (i - (P.length - cntK key P)) + P.length := by omega
    rw [e, Nat.add_mod_right, Nat.mod_eq_of_lt (by omega)]

/-! those that come first -/
def addF (acc : List Int) (x : Int) : List Int := if x ∈ acc then acc else acc ++ [x]
def firsts (l : List Int) : List Int := l.foldl addF []
theorem firsts_snoc (l : List Int) (x : Int) : firsts (l ++ [x]) = addF (firsts l) x := by simp [firsts, List.foldl_append]
theorem addF_mem (acc : List Int) (x y : Int) : y ∈ addF acc x ↔ y ∈ acc ∨ y = x := by
  unfold addF
  by_cases h : x ∈ acc
  · rw [if_pos h]
    constructor
    · exact Or.inl
    · rintro (h' | rfl)
      · exact h'
      · exact h
  · rw [if_neg h]; simp
theorem snoc_ind {α : Type} {M : List α → Prop} (l : List α) (h0 : M []) (hs : ∀ l x, M l → M (l ++ [x])) : M l := by
  have : ∀ n, ∀ l : List α, l.length = n → M l := by
    intro n
    induction n with
    | zero => intro l hl; rw [List.eq_nil_of_length_eq_zero hl]; exact h0
    | succ n ih =>
      intro l hl
      have hne : l ≠ [] := fun e => by subst e; simp at hl
      rw [← List.dropLast_concat_getLast hne]
      exact hs _ _ (ih _ (by rw [List.length_dropLast]; omega))
  exact this _ l rfl
theorem firsts_mem (l : List Int) (y : Int) : y ∈ firsts l ↔ y ∈ l := by
  induction l using snoc_ind with
  | h0 => simp [firsts]
  | hs l x ih => rw [firsts_snoc, addF_mem, ih]; simp
theorem firsts_nodup (l : List Int) : (firsts l).Nodup := by
  induction l using snoc_ind with
  | h0 => simp [firsts]
  | hs l x ih =>
    rw [firsts_snoc]
    unfold addF
    by_cases h : x ∈ firsts l
    · rw [if_pos h]; exact ih
    · rw [if_neg h, List.nodup_append]
      exact ⟨ih, by simp, fun a ha b hb => by rw [List.mem_singleton.1 hb]; intro e; subst e; exact h ha⟩
theorem firsts_filter (q : Int → Bool) (l : List Int) : firsts (l.filter q) = (firsts l).filter q := by
  induction l using snoc_ind with
  | h0 => simp [firsts]
  | hs l x ih =>
    rw [List.filter_append, firsts_snoc]
    by_cases hq : q x = true
    · have : [x].filter q = [x] := by simp [hq]
      rw [this, firsts_snoc, ih]
      unfold addF
      by_cases h : x ∈ firsts l
      · rw [if_pos h, if_pos (List.mem_filter.2 ⟨h, hq⟩)]
      · rw [if_neg h, if_neg (fun hh => h (List.mem_filter.1 hh).1), List.filter_append, this]
    · have : [x].filter q = [] := by simp [hq]
      rw [this, List.append_nil, ih]
      unfold addF
      by_cases h : x ∈ firsts l
      · rw [if_pos h]
      · rw [if_neg h, List.filter_append, this, List.append_nil]
theorem firsts_prefix (l m : List Int) : ∃ r, firsts (l ++ m) = firsts l ++ r := by
  induction m using snoc_ind with
  | h0 => exact ⟨[], by simp⟩
  | hs m x ih =>
    obtain ⟨r, hr⟩ := ih
    rw [← List.append_assoc, firsts_snoc, hr]
    unfold addF
    by_cases h : x ∈ firsts l ++ r
    · rw [if_pos h]; exact ⟨r, rfl⟩
    · rw [if_neg h]; exact ⟨r ++ [x], by rw [List.append_assoc]⟩
theorem firsts_full (l m : List Int) (h : ∀ x ∈ m, x ∈ firsts l) : firsts (l ++ m) = firsts l := by
  induction m using snoc_ind with
  | h0 => simp
  | hs m x ih =>
    have e := ih (fun y hy => h y (List.mem_append_left _ hy))
    rw [← List.append_assoc, firsts_snoc, e, addF, if_pos (h x (by simp))]
theorem firsts_head (l : List Int) : (firsts l).head? = l.head? := by
  cases l with
  | nil => rfl
  | cons a l =>
    obtain ⟨r, hr⟩ := firsts_prefix [a] l
    have : firsts [a] = [a] := by simp [firsts, addF]
    rw [this] at hr
    have e : a :: l = [a] ++ l := rfl
    rw [e, hr]; rfl

/-! the row behind a key -/
def rowOf (key : Int) (P : List (Int × Int)) : List Int := firsts ((rotK key P).map Prod.snd)
theorem rowOf_nodup (key : Int) (P : List (Int × Int)) : (rowOf key P).Nodup := firsts_nodup _
theorem rowOf_mem (key : Int) (p : Nat) (hp : 0 < p) (ids : List Int) (x : Int) : x ∈ rowOf key (pointsOf p ids) ↔ x ∈ ids := by
  rw [rowOf, firsts_mem, ← points_mem p hp ids x]
  simp only [List.mem_map, rotK_mem]
theorem rowOf_filter (key : Int) (p : Nat) (q : Int → Bool) (ids : List Int) : rowOf key (pointsOf p (ids.filter q)) = (rowOf key (pointsOf p ids)).filter q := by
  unfold rowOf
  rw [points_filter, rotK_filter, ← firsts_filter]
  congr 1
  rw [List.filter_map]; rfl
theorem rowOf_length (key : Int) (p : Nat) (hp : 0 < p) (ids : List Int) : (rowOf key (pointsOf p ids)).length = (ends ids).length :=
  ((List.perm_ext_iff_of_nodup (rowOf_nodup _ _) (ends_nodup ids)).2 (fun x => by rw [rowOf_mem key p hp, ends_mem])).length_eq
theorem points_congr (p : Nat) {a b : List Int} (h : ∀ x, x ∈ a ↔ x ∈ b) : pointsOf p a = pointsOf p b := by unfold pointsOf; rw [ends_congr h]
end Go.Proofs.Ytoncfogihiapiaa
