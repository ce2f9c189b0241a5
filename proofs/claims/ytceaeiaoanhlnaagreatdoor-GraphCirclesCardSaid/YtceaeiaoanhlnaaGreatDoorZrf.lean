/- Merged texts (PlA, RfA, RfD). -/
import Derived.Test.YtceaeiaoanhlnaaGreatDoorZmh
import Derived.Test.YtceaeiaoanhlnaaGreatDoorZb
import Derived.StillTailTactics
import Derived.Deep.CutRange
import Derived.Test.YtceaeiaoanhlnaaGreatDoorZrl
namespace Go.Proofs.YtceaeiaoanhlnaaGreatDoor
open Go.ChangeShapes Go.WideShapes Go.ChangeAt Go.RowKit Go.Lib Go.Shelf
theorem spl_cons (c : List UInt8) (x : UInt8) (l : List UInt8) : spl c (x :: l) = if x = 47 then c :: spl [] l else spl (c ++ [x]) l := rfl
theorem spl_free (c l : List UInt8) (h : 47 ∉ l) : spl c l = [c ++ l] := by
 induction l generalizing c with
 | nil => simp [spl]
 | cons x l ih =>
  have hx : x ≠ 47 := fun e => h (by rw [e]; exact List.mem_cons_self)
  unfold spl
  rw [if_neg hx, ih _ (fun hm => h (List.mem_cons_of_mem _ hm))]
  simp
theorem spl_cut (c t l : List UInt8) (h : 47 ∉ t) : spl c (t ++ 47 :: l) = (c ++ t) :: spl [] l := by
 induction t generalizing c with
 | nil => simp [spl]
 | cons x t ih =>
  have hx : x ≠ 47 := fun e => h (by rw [e]; exact List.mem_cons_self)
  show spl c (x :: (t ++ 47 :: l)) = _
  rw [spl_cons, if_neg hx, ih _ (fun hm => h (List.mem_cons_of_mem _ hm))]
  simp
theorem free_or_cut (l : List UInt8) : 47 ∉ l ∨ ∃ t r, 47 ∉ t ∧ l = t ++ 47 :: r := by
 induction l with
 | nil => exact .inl (by simp)
 | cons x l ih =>
  by_cases hx : x = 47
  ·exact .inr ⟨[], l, by simp, by rw [hx]; rfl⟩
  ·rcases ih with h | ⟨t, r, ht, rfl⟩
   ·refine .inl ?_
    intro hm
    rcases List.mem_cons.1 hm with h' | h'
    ·exact hx h'.symm
    ·exact h h'
   ·refine .inr ⟨x :: t, r, ?_, rfl⟩
    intro hm
    rcases List.mem_cons.1 hm with h' | h'
    ·exact hx h'.symm
    ·exact ht h'
theorem spl_len (c l : List UInt8) : (spl c l).length = l.count 47 + 1 := by
 induction l generalizing c with
 | nil => rfl
 | cons x l ih =>
  unfold spl
  by_cases hx : x = 47
  ·rw [if_pos hx, List.length_cons, ih, hx, List.count_cons_self]
  ·rw [if_neg hx, ih, List.count_cons_of_ne hx]
/-- parts first ones of parts: the bytes are the first ones, up to a cut -/
theorem spl_prefix (m : List UInt8) : ∀ (d c l : List UInt8), 47 ∉ d → 47 ∉ c → (spl d m <+: spl c l ↔ ∃ r, c ++ l = d ++ m ++ r ∧ (r = [] ∨ r.head? = some 47)) := by
 induction m with
 | nil =>
  intro d c l hd hc
  have e : spl d [] = [d] := rfl
  rw [e]
  rcases free_or_cut l with hl | ⟨t, r, ht, rfl⟩
  ·rw [spl_free c l hl]
   constructor
   ·intro h
    have := List.prefix_iff_eq_take.1 h
    simp at this
    exact ⟨[], by simp [this], .inl rfl⟩
   ·rintro ⟨r, h1, h2⟩
    rcases h2 with rfl | h2
    ·simp at h1
     rw [h1]
     exact List.prefix_rfl
    ·exfalso
     cases r with
     | nil => cases h2
     | cons x r =>
      simp at h2
      subst h2
      have : (47 : UInt8) ∈ c ++ l := by rw [h1]; simp
      rcases List.mem_append.1 this with h | h
      ·exact hc h
      ·exact hl h
  ·rw [spl_cut c t r ht]
   constructor
   ·intro h
    have := List.prefix_iff_eq_take.1 h
    simp at this
    exact ⟨47 :: r, by simp [this], .inr rfl⟩
   ·rintro ⟨q, h1, h2⟩
    have hh : d = c ++ t := by
     have hct : (47 : UInt8) ∉ c ++ t := fun hm => by
      rcases List.mem_append.1 hm with h | h
      ·exact hc h
      ·exact ht h
     have h3 : (c ++ t) ++ 47 :: r = d ++ q := by simpa using h1
     rcases h2 with rfl | h2
     ·exfalso
      apply hd
      have : (47 : UInt8) ∈ d := by
       have : d = (c ++ t) ++ 47 :: r := by simpa using h3.symm
       rw [this]
       simp
      exact this
     ·cases q with
      | nil => cases h2
      | cons x q =>
       simp at h2
       subst h2
       rcases List.append_eq_append_iff.1 h3 with ⟨a, h4, h5⟩ | ⟨a, h4, h5⟩
       ·cases a with
        | nil => simpa using h4
        | cons y a =>
         simp at h5
         exfalso
         apply hd
         rw [h4, ← h5.1]
         simp
       ·cases a with
        | nil => simpa using h4.symm
        | cons y a =>
         simp at h5
         exfalso
         apply hct
         rw [h4, ← h5.1]
         simp
    rw [hh]
    exact ⟨spl [] r, rfl⟩
 | cons x m ih =>
  intro d c l hd hc
  by_cases hx : x = 47
  ·subst hx
   have e : spl d (47 :: m) = d :: spl [] m := by rw [spl_cons, if_pos rfl]
   rw [e]
   rcases free_or_cut l with hl | ⟨t, r, ht, rfl⟩
   ·rw [spl_free c l hl]
    constructor
    ·intro h
     have h1 := h.length_le
     have h2 := spl_len [] m
     simp at h1
     rw [h1] at h2
     simp at h2
    ·rintro ⟨q, h1, -⟩
     exfalso
     have : (47 : UInt8) ∈ c ++ l := by rw [h1]; simp
     rcases List.mem_append.1 this with h | h
     ·exact hc h
     ·exact hl h
   ·rw [spl_cut c t r ht, List.cons_prefix_cons, ih [] [] r (by simp) (by simp)]
    constructor
    ·rintro ⟨rfl, q, h1, h2⟩
     refine ⟨q, ?_, h2⟩
     simp at h1 ⊢
     exact h1
    ·rintro ⟨q, h1, h2⟩
     have hct : (47 : UInt8) ∉ c ++ t := fun hm => by
      rcases List.mem_append.1 hm with h | h
      ·exact hc h
      ·exact ht h
     have h3 : (c ++ t) ++ 47 :: r = d ++ 47 :: (m ++ q) := by simpa using h1
     have hk : d = c ++ t ∧ r = m ++ q := by
      rcases List.append_eq_append_iff.1 h3 with ⟨a, h4, h5⟩ | ⟨a, h4, h5⟩
      ·cases a with
       | nil => simp at h4 h5; exact ⟨h4, h5⟩
       | cons y a =>
        simp at h5
        exfalso
        apply hd
        rw [h4, ← h5.1]
        simp
      ·cases a with
       | nil => simp at h4 h5; exact ⟨h4.symm, h5.symm⟩
       | cons y a =>
        simp at h5
        exfalso
        apply hct
        rw [h4, ← h5.1]
        simp
     exact ⟨hk.1, q, by simpa using hk.2, h2⟩
  ·have e : spl d (x :: m) = spl (d ++ [x]) m := by rw [spl_cons, if_neg hx]
   rw [e, ih (d ++ [x]) c l (by
    intro hm
    rcases List.mem_append.1 hm with h | h
    ·exact hd h
    ·exact hx (List.mem_singleton.1 h).symm) hc]
   simp
theorem path_cons {p : List UInt8} (h : isPath p = true) (hne : p ≠ [47]) : ∃ l, p = 47 :: l := by
 unfold isPath at h
 rw [Bool.or_eq_true] at h
 rcases h with h | h
 ·exact absurd (by simpa using h) hne
 ·simp only [Bool.and_eq_true, beq_iff_eq] at h
  obtain ⟨⟨_, h⟩, _⟩ := h
  cases p with
  | nil => cases h
  | cons c p => simp at h; subst h; exact ⟨p, rfl⟩
theorem spl_nonempty (c l : List UInt8) : spl c l ≠ [] := fun h => by
 have := spl_len c l
 rw [h] at this
 simp at this
/-- the document's Begins is the code's -/
theorem begins_parts {p q : List UInt8} (hp : isPath p = true) (hq : isPath q = true) : (decide ((partsL q).length ≤ (partsL p).length) && ((partsL p).take (partsL q).length == partsL q)) = beginsB p q := by
 have key : (partsL q <+: partsL p) ↔ beginsB p q = true := by
  unfold beginsB
  by_cases hr : q = [47]
  ·subst hr
   have e : partsL [47] = [] := rfl
   rw [e]
   simp
  ·obtain ⟨m, rfl⟩ := path_cons hq hr
   have hb : ((47 :: m : List UInt8) == [47]) = false := by simpa using hr
   rw [hb, Bool.false_or]
   unfold partsL
   rw [if_neg hr, List.tail_cons]
   by_cases hpr : p = [47]
   ·subst hpr
    rw [if_pos rfl]
    constructor
    ·intro h
     exact absurd (List.prefix_nil.1 h) (spl_nonempty _ _)
    ·intro h
     exfalso
     have h1 : Lib.hasPrefix [47] (47 :: m) = true := by
      simp only [Bool.and_eq_true] at h
      exact h.1
     unfold Lib.hasPrefix at h1
     have h2 := List.isPrefixOf_iff_prefix.1 h1
     rw [List.cons_prefix_cons] at h2
     exact hr (by rw [List.prefix_nil.1 h2.2])
   ·rw [if_neg hpr]
    obtain ⟨l, rfl⟩ := path_cons hp hpr
    rw [List.tail_cons, spl_prefix m [] [] l (by simp) (by simp)]
    unfold Lib.trimPrefix Lib.hasPrefix
    constructor
    ·rintro ⟨r, h1, h2⟩
     simp at h1
     subst h1
     have hpf : (47 :: m : List UInt8).isPrefixOf (47 :: (m ++ r)) = true := List.isPrefixOf_iff_prefix.2 ⟨r, rfl⟩
     rw [if_pos hpf, hpf]
     have hd : (47 :: (m ++ r) : List UInt8).drop (47 :: m : List UInt8).length = r := by simp
     rw [hd]
     rcases h2 with rfl | h2
     ·rfl
     ·rw [h2]; simp
    ·intro h
     simp only [Bool.and_eq_true] at h
     obtain ⟨hpf, h⟩ := h
     obtain ⟨r, hr'⟩ := List.isPrefixOf_iff_prefix.1 hpf
     rw [if_pos hpf, ← hr'] at h
     have hd : ((47 :: m : List UInt8) ++ r).drop (47 :: m : List UInt8).length = r := by simp
     rw [hd, Bool.or_eq_true] at h
     refine ⟨r, by simpa using hr'.symm, ?_⟩
     rcases h with h | h
     ·exact .inl (by simpa using h)
     ·exact .inr (by simpa using h)
 rw [Bool.eq_iff_iff, ← key, Bool.and_eq_true, decide_eq_true_eq, beq_iff_eq]
 constructor
 ·rintro ⟨_, h2⟩
  exact List.prefix_iff_eq_take.2 h2.symm
 ·intro h
  exact ⟨h.length_le, (List.prefix_iff_eq_take.1 h).symm⟩
end Go.Proofs.YtceaeiaoanhlnaaGreatDoor
namespace Go.Proofs.YtceaeiaoanhlnaaGreatDoor
open Go.ChangeShapes Go.WideShapes Go.ChangeAt Go.RowKit Go.Lib Go.Shelf
def sameTexts (xs ys : List ByteArray) : Bool := decide (xs.map bl = ys.map bl)
theorem bl_inj {x y : ByteArray} : (x.toList == y.toList) = (bl x == bl y) := by rw [toL, toL]; rfl
set_option maxRecDepth 100000 in
set_option maxHeartbeats 4000000 in
theorem sameTexts_any (xs ys : List ByteArray) (u v : Value) (w : World) (hx : Strs w u xs) (hy : Strs w v ys) :
  Calls Tryz.prog 130 #[u, v] w fun e w' => e = .returned (.bool (sameTexts xs ys)) ∧ Ext w w' := by
 have HX := hide hx
 have HY := hide hy
 obtain ⟨hl1, a, cap, rfl⟩ := hx.shape
 obtain ⟨hl2, a', cap', rfl⟩ := hy.shape
 clear hx hy
 by_cases hlen : xs.length = ys.length
 ·have hlb : ((xs.length : Int) != (ys.length : Int)) = false := by simp [hlen]
  have HLEN := hide hlen; clear hlen
  go_enter Tryz.func130, Tryz.ntmps130
  go_wp2
  go_loopw [5] (fun i wr => ∃ k : Nat, k ≤ xs.length ∧ i = .int .i64 k ∧ Ext w wr ∧ (xs.take k).map bl = (ys.take k).map bl) (fun i _ => xs.length - (intOf i).toNat)
  case atStart => exact ⟨0, Nat.zero_le _, rfl, Below.refl _ _, rfl⟩
  case round =>
   obtain ⟨k, hk, rfl, hE, hT⟩ := hrel
   have HT := hide hT; clear hT
   by_cases hlt : k < xs.length
   ·have hlt2 : k < ys.length := by have := HLEN.out; omega
    obtain ⟨b, off, rfl, hbb, c0⟩ := strs_at (HX.out.ext hE) k hlt
    obtain ⟨b', off', rfl, hbb', c1⟩ := strs_at (HY.out.ext hE) k hlt2
    have htx := take_snoc xs k hlt
    have hty := take_snoc ys k hlt2
    have hgx : bl xs[k] = bl ys[k] → (xs.take (k + 1)).map bl = (ys.take (k + 1)).map bl := fun h => by rw [htx, hty, List.map_append, List.map_append, HT.out]; simp [h]
    have hgn : bl xs[k] ≠ bl ys[k] → sameTexts xs ys = false := fun h => decide_eq_false fun e => h (by
     have h1 := congrArg (fun l => l[k]?) e
     simp only [List.getElem?_map, List.getElem?_eq_getElem hlt, List.getElem?_eq_getElem hlt2, Option.map_some, Option.some.injEq] at h1
     exact h1)
    have hkz : (k : Int) < xs.length := by omega
    have hkz2 : (k : Int) < ys.length := by omega
    generalize xs[k] = x at *
    generalize ys[k] = y at *
    clear htx hty
    by_cases he : bl x = bl y
    ·have heb : (x.toList == y.toList) = true := by rw [bl_inj]; simpa using he
     have heb2 : (x.toList != y.toList) = false := by show (!(x.toList == y.toList)) = false; rw [heb]; rfl
     have HG := hide (hgx he)
     clear he hgx hgn
     go_wp2_with fail
     go_quiet (fail)
     go_wp2
     go_roundw
     case rel => exact ⟨k + 1, by omega, by go_num, Below.drewN' hE _, HG.out⟩
     case measure => simp [intOf]; omega
    ·have heb : (x.toList == y.toList) = false := by rw [bl_inj]; simpa using he
     have heb2 : (x.toList != y.toList) = true := by show (!(x.toList == y.toList)) = true; rw [heb]; rfl
     have HG := hide (hgn he)
     clear he hgx hgn
     go_wp2_with fail
     go_quiet (fail)
     go_wp2
     go_ret
     exact ⟨ret_bool HG.out.symm, Below.drewN' hE _⟩
   ·have hge : xs.length ≤ k := by omega
    have hf : sameTexts xs ys = true := decide_eq_true (by
     have := HT.out; rw [List.take_of_length_le hge, List.take_of_length_le (by have := HLEN.out; omega)] at this; exact this)
    have HF := hide hf; clear hf
    go_wp2
    go_ret
    exact ⟨ret_bool HF.out.symm, hE⟩
 ·have hlb : ((xs.length : Int) != (ys.length : Int)) = true := by simp; omega
  have hf : sameTexts xs ys = false := decide_eq_false fun e => hlen (by simpa using congrArg List.length e)
  have HF := hide hf
  clear hf hlen
  go_enter Tryz.func130, Tryz.ntmps130
  go_wp2
  go_ret
  exact ⟨ret_bool HF.out.symm, Below.refl _ _⟩
/-- ref05.Begins -/
def beg5 (p q : List UInt8) : Bool := isPath p && isPath q && beginsB p q
set_option maxRecDepth 100000 in
set_option maxHeartbeats 4000000 in
theorem beg5_any (s q : ByteArray) (w : World) (hs : s.size ≤ 9223372036854775807) (hq : q.size ≤ 9223372036854775807) :
  Calls Tryz.prog 97 #[.string s, .string q] w fun e w' => e = .returned (.bool (beg5 (bl s) (bl q))) ∧ Ext w w' := by
 have H1 := hide (fun X => parts_any s X hs)
 have H2 := hide (fun X => parts_any q X hq)
 have e1 : s.data.toList = bl s := rfl
 have e2 : q.data.toList = bl q := rfl
 rw [e1] at H1
 rw [e2] at H2
 have hbeg : isPath (bl s) = true → isPath (bl q) = true → (decide ((partsL (bl q)).length ≤ (partsL (bl s)).length) && ((partsL (bl s)).take (partsL (bl q)).length == partsL (bl q))) = beginsB (bl s) (bl q) := fun h1 h2 => begins_parts h1 h2
 have hv : beg5 (bl s) (bl q) = (isPath (bl s) && isPath (bl q) && beginsB (bl s) (bl q)) := rfl
 have HBEG := hide hbeg
 have HV := hide hv
 clear hbeg hv e1 e2 hs hq
 go_enter Tryz.func97, Tryz.ntmps97
 go_wp2_with fail
 refine (H1.out _).mono ?_
 rintro e w1 ⟨v1, rfl, hD1, E1⟩
 have HD1 := hide hD1
 have HE1 := hide E1
 clear hD1 E1
 go_wp2_with fail
 refine (H2.out _).mono ?_
 rintro e w2 ⟨v2, rfl, hD2, E2⟩
 have HD2 := hide hD2
 have HE2 := hide (HE1.out.trans E2)
 have E2' := hide E2
 clear hD2 E2
 cases h1 : isPath (bl s) with
 | false =>
  have HV2 := hide (show beg5 (bl s) (bl q) = false by rw [HV.out, h1]; rfl)
  clear h1
  go_wp2
  go_ret
  exact ⟨ret_bool HV2.out.symm, HE2.out⟩
 | true =>
  obtain ⟨D1, hm1, hl1, ho1⟩ := HD1.out h1
  obtain ⟨x1, y1, rfl⟩ := owns_shape ho1
  cases h2 : isPath (bl q) with
  | false =>
   have HV2 := hide (show beg5 (bl s) (bl q) = false by rw [HV.out, h1, h2]; rfl)
   clear h1 h2 hm1 ho1
   go_wp2
   go_ret
   exact ⟨ret_bool HV2.out.symm, HE2.out⟩
  | true =>
   obtain ⟨D2, hm2, hl2, ho2⟩ := HD2.out h2
   obtain ⟨x2, y2, rfl⟩ := owns_shape ho2
   have hb := HBEG.out h1 h2
   have hn1 : (partsL (bl s)).length = D1.length := by rw [← hm1]; simp
   have hn2 : (partsL (bl q)).length = D2.length := by rw [← hm2]; simp
   rw [hn1, hn2] at hb
   have hcap := (Sl.of_own' encS_len ho1).cap.2.1
   have hs1 : Strs w2 (.slice x1 D1.length y1) D1 := (Sl.of_own' encS_len ho1).ext E2'.out
   have hs2 : Strs w2 (.slice x2 D2.length y2) D2 := Sl.of_own' encS_len ho2
   by_cases hle : D2.length ≤ D1.length
   ·have hlez : ¬ (D2.length : Int) > D1.length := by omega
    have hcz : D2.length ≤ y1 := by omega
    have hst := sameTexts_any (D1.take D2.length) D2 (.slice x1 D2.length y1) (.slice x2 D2.length y2) w2 (hs1.take D2.length hle) hs2
    have hr : sameTexts (D1.take D2.length) D2 = beg5 (bl s) (bl q) := by
     rw [HV.out, h1, h2, ← hb, decide_eq_true hle]
     unfold sameTexts
     rw [List.map_take, hm1, hm2]
     simp only [Bool.true_and]
     cases hq : ((partsL (bl s)).take D2.length == partsL (bl q)) with
     | true => exact decide_eq_true (by simpa using hq)
     | false => exact decide_eq_false (by simpa using hq)
    rw [hr] at hst
    have HST := hide hst
    clear hst hr hb hn1 hn2 hm1 hm2 ho1 ho2 hs1 hs2 h1 h2 hcap
    go_wp2_with fail
    refine HST.out.mono ?_
    rintro e w3 ⟨rfl, E3⟩
    go_wp2
    go_ret
    exact ⟨rfl, HE2.out.trans E3⟩
   ·have hlez : (D2.length : Int) > D1.length := by omega
    have HV2 := hide (show beg5 (bl s) (bl q) = false by rw [HV.out, h1, h2, ← hb, decide_eq_false hle]; rfl)
    clear hb hn1 hn2 hm1 hm2 ho1 ho2 hs1 hs2 h1 h2 hcap
    go_wp2
    go_ret
    exact ⟨ret_bool HV2.out.symm, HE2.out⟩
theorem begins_self {p : List UInt8} : beginsB p p = true := by
 unfold beginsB Lib.trimPrefix Lib.hasPrefix
 have h : p.isPrefixOf p = true := List.isPrefixOf_iff_prefix.2 List.prefix_rfl
 rw [if_pos h, h]
 simp
set_option maxRecDepth 100000 in
set_option maxHeartbeats 4000000 in
theorem on5_any (mp p : ByteArray) (ex : Bool) (hv : Value) (w : World) (hs : p.size ≤ 9223372036854775807) (hq : mp.size ≤ 9223372036854775807) (hmp : isPath (bl mp) = true) (hsh : ∃ a n c, hv = .slice a n c) :
  Calls Tryz.prog 77 #[.agg #[.string mp, .bool ex, hv], .string p] w fun e w' => e = .returned (.bool (onB (bl mp) ex (bl p))) ∧ Ext w w' := by
 obtain ⟨ha, hn, hc, rfl⟩ := hsh
 have hx0 : Ext w (w.alloc (.cells #[.string mp, .bool ex, .slice ha hn hc] 45)) := (Below.refl _ w).alloc (Nat.le_refl _) _
 have hb0 := heap_alloc_new w (.cells #[.string mp, .bool ex, .slice ha hn hc] 45)
 have hbg := fun X => beg5_any p mp X hs hq
 have hon : onB (bl mp) ex (bl p) = (beg5 (bl p) (bl mp) && (!ex || (bl p == bl mp))) := by
  unfold onB beg5
  rw [hmp, Bool.and_true]
  cases ex with
  | false => simp
  | true =>
   by_cases he : bl mp = bl p
   ·rw [he, begins_self]; simp
   ·have h1 : (bl mp == bl p) = false := by simpa using he
    have h2 : (bl p == bl mp) = false := by simpa using fun e : bl p = bl mp => he e.symm
    rw [h1, h2]
    simp
 have HB := hide hbg
 have HX := hide hx0
 have HB0 := hide hb0
 have HON := hide hon
 clear hbg hon hs hq hmp
 go_enter Tryz.func77, Tryz.ntmps77
 go_upto_region 1 with (fail)
 clear hx0 hb0
 generalize w.alloc (.cells #[.string mp, .bool ex, .slice ha hn hc] 45) = W1 at *
 have c0 : W1.cell? ⟨w.heap.size, 0, none⟩ = some (.string mp) := by simp only [World.cell?, HB0.out]; rfl
 go_wp2_with fail
 refine (HB.out _).mono ?_
 rintro e w2 ⟨rfl, E2⟩
 have hlt : w.heap.size < W1.heap.size := (Array.getElem?_eq_some_iff.1 HB0.out).1
 have d0 : w2.cell? ⟨w.heap.size, 0, none⟩ = some (.string mp) := (E2.cell (p := ⟨w.heap.size, 0, none⟩) hlt).trans c0
 have d1 : w2.cell? ⟨w.heap.size, 1, none⟩ = some (.bool ex) := (E2.cell (p := ⟨w.heap.size, 1, none⟩) hlt).trans (by simp only [World.cell?, HB0.out]; rfl)
 have HE2 := hide (HX.out.trans E2)
 clear E2 c0
 cases hb : beg5 (bl p) (bl mp) with
 | false =>
  have HR := hide (show onB (bl mp) ex (bl p) = false by rw [HON.out, hb]; rfl)
  clear hb
  go_wp2
  go_ret
  exact ⟨ret_bool HR.out.symm, HE2.out⟩
 | true =>
  cases ex with
  | false =>
   have HR := hide (show onB (bl mp) false (bl p) = true by rw [HON.out, hb]; rfl)
   clear hb
   go_wp2
   go_ret
   exact ⟨ret_bool HR.out.symm, HE2.out⟩
  | true =>
   by_cases he : bl p = bl mp
   ·have heb : (p.toList == mp.toList) = true := by rw [bl_inj]; simpa using he
    have HR := hide (show onB (bl mp) true (bl p) = true by rw [HON.out, hb, he]; simp)
    clear hb he
    go_wp2
    go_ret
    exact ⟨ret_bool HR.out.symm, HE2.out⟩
   ·have heb : (p.toList == mp.toList) = false := by rw [bl_inj]; simpa using he
    have hebb : (bl p == bl mp) = false := by simpa using he
    have HR := hide (show onB (bl mp) true (bl p) = false by rw [HON.out, hb, hebb]; rfl)
    clear hb he hebb
    go_wp2
    go_ret
    exact ⟨ret_bool HR.out.symm, HE2.out⟩
end Go.Proofs.YtceaeiaoanhlnaaGreatDoor
namespace Go.Proofs.YtceaeiaoanhlnaaGreatDoor
open Go.ChangeShapes Go.WideShapes Go.ChangeAt Go.RowKit Go.Lib Go.Shelf
/-- the numbers of the rules by which a path may go -/
def onN (R : List RuleD) (p : List UInt8) (i : Nat) : Bool := match R[i]? with | some r => onB (bl r.path) r.ex p | none => false
def onL (R : List RuleD) (p : List UInt8) (k : Nat) : List Int := ((List.range k).filter (onN R p)).map fun i : Nat => (i : Int)
theorem onL_succ (R : List RuleD) (p : List UInt8) (k : Nat) : onL R p (k + 1) = if onN R p k = true then onL R p k ++ [(k : Int)] else onL R p k := by
 unfold onL
 rw [List.range_succ, List.filter_append]
 split
 ·rename_i h; simp [h]
 ·rename_i h; simp [h]
theorem onL_len (R : List RuleD) (p : List UInt8) (k : Nat) : (onL R p k).length ≤ k := by
 unfold onL
 rw [List.length_map]
 have := List.length_filter_le (onN R p) (List.range k)
 simpa using this
set_option maxRecDepth 100000 in
set_option maxHeartbeats 16000000 in
theorem ron_any (R : List RuleD) (p : ByteArray) (v : Value) (w : World) (hR : Rules w v R) (hok : ∀ r ∈ R, RuleOk w r) (hsz : ∀ r ∈ R, r.path.size ≤ 9223372036854775807 ∧ isPath (bl r.path) = true) (hs : p.size ≤ 9223372036854775807) (hl20 : R.length ≤ 1000) :
  Calls Tryz.prog 43 #[v, .string p] w fun e w' => ∃ v', e = .returned v' ∧ Ints w' v' (onL R (bl p) R.length) ∧ Ext w w' := by
 obtain ⟨hlr, a, c, rfl⟩ := hR.shape
 obtain ⟨ii, hii0, hii1, hii2, hii3⟩ := info_partsS Tryz.infoI
 have HR := hide hR
 have HOK := hide hok
 have HSZ := hide hsz
 have HS := hide hs
 have H20 := hide hl20
 clear hR hok hsz hs hl20
 go_enter Tryz.func43, Tryz.ntmps43
 go_wp2_with fail
 go_loopw [5, 6] (fun v5 v6 wr => ∃ i : Nat, v6 = .int .i64 i ∧ i ≤ R.length ∧ wr.ownsRow w.heap.size 3 1 v5 (onL R (bl p) i).length ((onL R (bl p) i).flatMap encI) ∧ Ext w wr) (fun _ i _ => R.length - (intOf i).toNat)
 case atStart => exact ⟨0, rfl, by omega, World.ownsRow_nil _ _ _ _, Below.refl _ _⟩
 case round =>
  obtain ⟨i, rfl, hi, hown, hext⟩ := hrel
  obtain ⟨xa, xc, rfl⟩ := owns_shape hown
  have HOW := hide hown
  have HX := hide hext
  clear hown hext
  by_cases hlt : i < R.length
  ·obtain ⟨b, off, rfl, hbb, hc⟩ := rules_at HR.out i hlt
   obtain ⟨r, hr⟩ : ∃ r, R[i] = r := ⟨_, rfl⟩
   have hrm : r ∈ R := by rw [← hr]; exact List.getElem_mem hlt
   rw [hr] at hc
   have hokr := (HOK.out r hrm).ext HX.out
   obtain ⟨_, ar, cr, hvr⟩ := hokr.1.shape
   have k0 : wr.cell? ⟨b, off + i * 19, none⟩ = some (.string r.path) := (HX.out.cell (p := ⟨b, off + i * 19, none⟩) hbb).trans (hc 0 _ rfl)
   have k1 : wr.cell? ⟨b, off + i * 19 + 1, none⟩ = some (.bool r.ex) := (HX.out.cell (p := ⟨b, off + i * 19 + 1, none⟩) hbb).trans (hc 1 _ rfl)
   have k2 : wr.cell? ⟨b, off + i * 19 + 2, none⟩ = some (.slice ar r.H.length cr) := by rw [← hvr]; exact (HX.out.cell (p := ⟨b, off + i * 19 + 2, none⟩) hbb).trans (hc 2 _ rfl)
   have hon := on5_any r.path p r.ex (.slice ar r.H.length cr) wr HS.out (HSZ.out r hrm).1 (HSZ.out r hrm).2 ⟨_, _, _, rfl⟩
   have hgi : R[i]? = some r := by rw [List.getElem?_eq_getElem hlt, hr]
   have hon2 : onN R (bl p) i = onB (bl r.path) r.ex (bl p) := by unfold onN; rw [hgi]
   have hsn := onL_succ R (bl p) i
   obtain ⟨f, hf⟩ : ∃ f, onB (bl r.path) r.ex (bl p) = f := ⟨_, rfl⟩
   rw [hf] at hon hon2
   rw [hon2] at hsn
   have hiz : (i : Int) < R.length := by omega
   have HON := hide hon
   have HSN := hide hsn
   have HLN := hide (onL_len R (bl p) i)
   clear hon hon2 hsn hf hgi hokr hvr hr hrm hc
   go_wp2_with fail
   refine HON.out.mono ?_
   rintro e w5 ⟨rfl, E5⟩
   have HE5 := hide (HX.out.trans E5)
   have HOW5 := hide (owns_ext HOW.out E5)
   clear k0 k1 k2 E5 HON
   generalize onL R (bl p) i = O at *
   cases f with
   | false =>
    have hs2 := HSN.out
    rw [if_neg (by simp)] at hs2
    have HS2 := hide hs2
    clear hs2
    go_wp2
    go_roundw
    case rel => exact ⟨i + 1, by go_num, by omega, by rw [HS2.out]; exact HOW5.out, HE5.out⟩
    case measure => simp [intOf] <;> omega
   | true =>
    have hs2 := HSN.out
    rw [if_pos rfl] at hs2
    have HS2 := hide hs2
    clear hs2
    go_upto_region 7 with (fail)
    refine wp_region_lit ?_
    refine wpList_plain rfl fun K hK => ?_
    go_simp
    refine hK _ _ ?_
    refine wpList_plain rfl fun K hK => ?_
    go_simp
    refine hK _ _ ?_
    refine wpList_plain rfl fun K hK => ?_
    go_simp
    refine hK _ _ ?_
    have hxa : Ext w5 (w5.alloc (.cells #[.int .i64 i] 3)) := (Below.refl _ _).alloc (Nat.le_refl _) _
    refine wpList_append_sl (enc := encI) rfl _ _ _ rfl w.heap.size 3 ii (.int .i64 0) 1 8 Tryz.underlying22 hii0 hii1 hii2 hii3 rfl (by decide) (fun _ => rfl) (.slice xa O.length xc) O.length (O.flatMap encI) rfl (owns_ext HOW5.out hxa) _ rfl [(i : Int)] (ints_new1 w5 i _) (fun x _ => encI_one x) (by have := HLN.out; have := H20.out; unfold maxLen; simp; omega) (by have := HLN.out; have := H20.out; simp; omega) (Nat.le_trans HE5.out.size hxa.size) ?_
    intro v7 w7 hown7 hg7
    have hk7 : Keeps (fun q => (Value.slice xa O.length xc).ownBlock = some q) w5 w7 := (Keeps.of_ext hxa).trans (Keeps.of_grown hg7 (fun q h => h))
    have hE7 : Ext w w7 := Keeps.ext HE5.out hk7 (fun q hq => (HOW5.out.lt q hq).1)
    have hown8 : w7.ownsRow w.heap.size 3 1 v7 (O ++ [(i : Int)]).length ((O ++ [(i : Int)]).flatMap encI) := by simpa using hown7
    have HO8 := hide hown8
    have HE7 := hide hE7
    clear hown8 hE7 hk7 hown7 hg7 hxa
    refine wpList_plain rfl fun K hK => ?_
    go_simp
    refine hK _ _ ?_
    refine wpList_nil ?_
    go_wp2
    go_roundw
    case rel => exact ⟨i + 1, by go_num, by omega, by rw [HS2.out]; exact HO8.out, HE7.out⟩
    case measure => simp [intOf] <;> omega
  ·obtain rfl : i = R.length := by omega
   generalize hO : onL R (bl p) R.length = O at *
   have hin : Ints wr (.slice xa O.length xc) O := Sl.of_own' (enc := encI) (fun _ => rfl) HOW.out
   have HIN := hide hin
   clear hin
   go_wp2
   go_ret
   exact ⟨_, rfl, by rw [hO]; exact HIN.out, HX.out⟩
end Go.Proofs.YtceaeiaoanhlnaaGreatDoor
