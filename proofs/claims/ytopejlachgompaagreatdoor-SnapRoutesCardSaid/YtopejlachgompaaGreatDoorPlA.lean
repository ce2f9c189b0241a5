
/- Whether a path begins with another one: by parts, and by bytes: the same. -/
import Derived.Test.YtopejlachgompaaGreatDoorZm
import Derived.Test.YtopejlachgompaaGreatDoorZb
namespace Go.Proofs.YtopejlachgompaaGreatDoor
open Go.ChangeShapes Go.WideShapes Go.ChangeAt Go.RowKit Go.Lib Go.Shelf
theorem spl_cons (c : List UInt8) (x : UInt8) (l : List UInt8) : spl c (x :: l) = if x = 47 then c :: spl [] l else spl (c ++ [x]) l := rfl
theorem spl_free (c l : List UInt8) (h : 47 ∉ l) : spl c l = [c ++ l] := by
 induction l generalizing c with
 | nil => simp [spl]
 | cons x l ih =>
  have hx : x ≠ 47 := fun e => h (by rw [e]; exact List.mem_cons_self)
  unfold spl
  rw [if_neg hx, ih _ (fun hm => h (List.mem_cons_of_mem _ hm))]
  simp
theorem spl_cut (c t l : List UInt8) (h : 47 ∉ t) : spl c (t ++ 47 :: l) = (c ++ t) :: spl [] l := by
 induction t generalizing c with
 | nil => simp [spl]
 | cons x t ih =>
  have hx : x ≠ 47 := fun e => h (by rw [e]; exact List.mem_cons_self)
  show spl c (x :: (t ++ 47 :: l)) = _
  rw [spl_cons, if_neg hx, ih _ (fun hm => h (List.mem_cons_of_mem _ hm))]
  simp
theorem free_or_cut (l : List UInt8) : 47 ∉ l ∨ ∃ t r, 47 ∉ t ∧ l = t ++ 47 :: r := by
 induction l with
 | nil => exact .inl (by simp)
 | cons x l ih =>
  by_cases hx : x = 47
  ·exact .inr ⟨[], l, by simp, by rw [hx]; rfl⟩
  ·rcases ih with h | ⟨t, r, ht, rfl⟩
   ·refine .inl ?_
    intro hm
    rcases List.mem_cons.1 hm with h' | h'
    ·exact hx h'.symm
    ·exact h h'
   ·refine .inr ⟨x :: t, r, ?_, rfl⟩
    intro hm
    rcases List.mem_cons.1 hm with h' | h'
    ·exact hx h'.symm
    ·exact ht h'
theorem spl_len (c l : List UInt8) : (spl c l).length = l.count 47 + 1 := by
 induction l generalizing c with
 | nil => rfl
 | cons x l ih =>
  unfold spl
  by_cases hx : x = 47
  ·rw [if_pos hx, List.length_cons, ih, hx, List.count_cons_self]
  ·rw [if_neg hx, ih, List.count_cons_of_ne hx]
/-- parts first ones of parts: the bytes are the first ones, up to a cut -/
theorem spl_prefix (m : List UInt8) : ∀ (d c l : List UInt8), 47 ∉ d → 47 ∉ c → (spl d m <+: spl c l ↔ ∃ r, c ++ l = d ++ m ++ r ∧ (r = [] ∨ r.head? = some 47)) := by
 induction m with
 | nil =>
  intro d c l hd hc
  have e : spl d [] = [d] := rfl
  rw [e]
  rcases free_or_cut l with hl | ⟨t, r, ht, rfl⟩
  ·rw [spl_free c l hl]
   constructor
   ·intro h
    have := List.prefix_iff_eq_take.1 h
    simp at this
    exact ⟨[], by simp [this], .inl rfl⟩
   ·rintro ⟨r, h1, h2⟩
    rcases h2 with rfl | h2
    ·simp at h1
     rw [h1]
     exact List.prefix_rfl
    ·exfalso
     cases r with
     | nil => cases h2
     | cons x r =>
      simp at h2
      subst h2
      have : (47 : UInt8) ∈ c ++ l := by rw [h1]; simp
      rcases List.mem_append.1 this with h | h
      ·exact hc h
      ·exact hl h
  ·rw [spl_cut c t r ht]
   constructor
   ·intro h
    have := List.prefix_iff_eq_take.1 h
    simp at this
    exact ⟨47 :: r, by simp [this], .inr rfl⟩
   ·rintro ⟨q, h1, h2⟩
    have hh : d = c ++ t := by
     have hct : (47 : UInt8) ∉ c ++ t := fun hm => by
      rcases List.mem_append.1 hm with h | h
      ·exact hc h
      ·exact ht h
     have h3 : (c ++ t) ++ 47 :: r = d ++ q := by simpa using h1
     rcases h2 with rfl | h2
     ·exfalso
      apply hd
      have : (47 : UInt8) ∈ d := by
       have : d = (c ++ t) ++ 47 :: r := by simpa using h3.symm
       rw [this]
       simp
      exact this
     ·cases q with
      | nil => cases h2
      | cons x q =>
       simp at h2
       subst h2
       rcases List.append_eq_append_iff.1 h3 with ⟨a, h4, h5⟩ | ⟨a, h4, h5⟩
       ·cases a with
        | nil => simpa using h4
        | cons y a =>
         simp at h5
         exfalso
         apply hd
         rw [h4, ← h5.1]
         simp
       ·cases a with
        | nil => simpa using h4.symm
        | cons y a =>
         simp at h5
         exfalso
         apply hct
         rw [h4, ← h5.1]
         simp
    rw [hh]
    exact ⟨spl [] r, rfl⟩
 | cons x m ih =>
  intro d c l hd hc
  by_cases hx : x = 47
  ·subst hx
   have e : spl d (47 :: m) = d :: spl [] m := by rw [spl_cons, if_pos rfl]
   rw [e]
   rcases free_or_cut l with hl | ⟨t, r, ht, rfl⟩
   ·rw [spl_free c l hl]
    constructor
    ·intro h
     have h1 := h.length_le
     have h2 := spl_len [] m
     simp at h1
     rw [h1] at h2
     simp at h2
    ·rintro ⟨q, h1, -⟩
     exfalso
     have : (47 : UInt8) ∈ c ++ l := by rw [h1]; simp
     rcases List.mem_append.1 this with h | h
     ·exact hc h
     ·exact hl h
   ·rw [spl_cut c t r ht, List.cons_prefix_cons, ih [] [] r (by simp) (by simp)]
    constructor
    ·rintro ⟨rfl, q, h1, h2⟩
     refine ⟨q, ?_, h2⟩
     simp at h1 ⊢
     exact h1
    ·rintro ⟨q, h1, h2⟩
     have hct : (47 : UInt8) ∉ c ++ t := fun hm => by
      rcases List.mem_append.1 hm with h | h
      ·exact hc h
      ·exact ht h
     have h3 : (c ++ t) ++ 47 :: r = d ++ 47 :: (m ++ q) := by simpa using h1
     have hk : d = c ++ t ∧ r = m ++ q := by
      rcases List.append_eq_append_iff.1 h3 with ⟨a, h4, h5⟩ | ⟨a, h4, h5⟩
      ·cases a with
       | nil => simp at h4 h5; exact ⟨h4, h5⟩
       | cons y a =>
        simp at h5
        exfalso
        apply hd
        rw [h4, ← h5.1]
        simp
      ·cases a with
       | nil => simp at h4 h5; exact ⟨h4.symm, h5.symm⟩
       | cons y a =>
        simp at h5
        exfalso
        apply hct
        rw [h4, ← h5.1]
        simp
     exact ⟨hk.1, q, by simpa using hk.2, h2⟩
  ·have e : spl d (x :: m) = spl (d ++ [x]) m := by rw [spl_cons, if_neg hx]
   rw [e, ih (d ++ [x]) c l (by
    intro hm
    rcases List.mem_append.1 hm with h | h
    ·exact hd h
    ·exact hx (List.mem_singleton.1 h).symm) hc]
   simp
theorem path_cons {p : List UInt8} (h : isPath p = true) (hne : p ≠ [47]) : ∃ l, p = 47 :: l := by
 unfold isPath at h
 rw [Bool.or_eq_true] at h
 rcases h with h | h
 ·exact absurd (by simpa using h) hne
 ·simp only [Bool.and_eq_true, beq_iff_eq] at h
  obtain ⟨⟨_, h⟩, _⟩ := h
  cases p with
  | nil => cases h
  | cons c p => simp at h; subst h; exact ⟨p, rfl⟩
theorem parts_len {p : List UInt8} (h : isPath p = true) : ((partsL p).length : Int) = rk1 p := by
 unfold partsL rk1
 by_cases hr : p = [47]
 ·rw [if_pos hr, if_pos hr]; rfl
 ·rw [if_neg hr, if_neg hr]
  obtain ⟨l, rfl⟩ := path_cons h hr
  rw [List.tail_cons, spl_len]
  unfold Lib.countByte
  rw [List.count_cons_self]
theorem spl_nonempty (c l : List UInt8) : spl c l ≠ [] := fun h => by
 have := spl_len c l
 rw [h] at this
 simp at this
/-- the document's Begins is the code's -/
theorem begins_parts {p q : List UInt8} (hp : isPath p = true) (hq : isPath q = true) : (decide ((partsL q).length ≤ (partsL p).length) && ((partsL p).take (partsL q).length == partsL q)) = beginsB p q := by
 have key : (partsL q <+: partsL p) ↔ beginsB p q = true := by
  unfold beginsB
  by_cases hr : q = [47]
  ·subst hr
   have e : partsL [47] = [] := rfl
   rw [e]
   simp
  ·obtain ⟨m, rfl⟩ := path_cons hq hr
   have hb : ((47 :: m : List UInt8) == [47]) = false := by simpa using hr
   rw [hb, Bool.false_or]
   unfold partsL
   rw [if_neg hr, List.tail_cons]
   by_cases hpr : p = [47]
   ·subst hpr
    rw [if_pos rfl]
    constructor
    ·intro h
     exact absurd (List.prefix_nil.1 h) (spl_nonempty _ _)
    ·intro h
     exfalso
     have h1 : Lib.hasPrefix [47] (47 :: m) = true := by
      simp only [Bool.and_eq_true] at h
      exact h.1
     unfold Lib.hasPrefix at h1
     have h2 := List.isPrefixOf_iff_prefix.1 h1
     rw [List.cons_prefix_cons] at h2
     exact hr (by rw [List.prefix_nil.1 h2.2])
   ·rw [if_neg hpr]
    obtain ⟨l, rfl⟩ := path_cons hp hpr
    rw [List.tail_cons, spl_prefix m [] [] l (by simp) (by simp)]
    unfold Lib.trimPrefix Lib.hasPrefix
    constructor
    ·rintro ⟨r, h1, h2⟩
     simp at h1
     subst h1
     have hpf : (47 :: m : List UInt8).isPrefixOf (47 :: (m ++ r)) = true := List.isPrefixOf_iff_prefix.2 ⟨r, rfl⟩
     rw [if_pos hpf, hpf]
     have hd : (47 :: (m ++ r) : List UInt8).drop (47 :: m : List UInt8).length = r := by simp
     rw [hd]
     rcases h2 with rfl | h2
     ·rfl
     ·rw [h2]; simp
    ·intro h
     simp only [Bool.and_eq_true] at h
     obtain ⟨hpf, h⟩ := h
     obtain ⟨r, hr'⟩ := List.isPrefixOf_iff_prefix.1 hpf
     rw [if_pos hpf, ← hr'] at h
     have hd : ((47 :: m : List UInt8) ++ r).drop (47 :: m : List UInt8).length = r := by simp
     rw [hd, Bool.or_eq_true] at h
     refine ⟨r, by simpa using hr'.symm, ?_⟩
     rcases h with h | h
     ·exact .inl (by simpa using h)
     ·exact .inr (by simpa using h)
 rw [Bool.eq_iff_iff, ← key, Bool.and_eq_true, decide_eq_true_eq, beq_iff_eq]
 constructor
 ·rintro ⟨_, h2⟩
  exact List.prefix_iff_eq_take.2 h2.symm
 ·intro h
  exact ⟨h.length_le, (List.prefix_iff_eq_take.1 h).symm⟩
end Go.Proofs.YtopejlachgompaaGreatDoor
