/- BoundMost: the plain law. -/
import Derived.Test.YtfmoiepjbkhjfaaBndRo
namespace Go.Proofs.Ytfmoiepjbkhjfaa
open Go.ChangeShapes Go.WideShapes Go.ChangeAt Go.RowKit Go.Maps Go.Shelf
theorem sum_perm {a b : List Int} (h : a.Perm b) : a.sum = b.sum := by
  induction h with
  | nil => rfl
  | cons x _ ih => simp [ih]
  | swap x y l => simp only [List.sum_cons]; omega
  | trans _ _ h1 h2 => exact h1.trans h2
theorem sumL_perm {a b : List Int} (L : List (Int × Int)) (h : a.Perm b) : sumL a L = sumL b L := sum_perm (h.map _)
def bmp (x : Int) (y : Int × Int) : Int × Int := if y.1 = x then (y.1, y.2 + 1) else y
theorem bmp_fst (x : Int) (y : Int × Int) : (bmp x y).1 = y.1 := by unfold bmp; split <;> rfl
theorem bmp_map_fst (x : Int) (L : List (Int × Int)) : (L.map (bmp x)).map Prod.fst = L.map Prod.fst := by
  rw [List.map_map]; exact List.map_congr_left (fun y _ => bmp_fst x y)
def bTo (x : Int) (L : List (Int × Int)) (j : Nat) : List (Int × Int) := (L.take j).map (bmp x) ++ L.drop j
theorem bTo_len (x : Int) (L : List (Int × Int)) (j : Nat) : (bTo x L j).length = L.length := by simp [bTo]; omega
theorem bTo_zero (x : Int) (L : List (Int × Int)) : bTo x L 0 = L := by simp [bTo]
theorem bTo_all (x : Int) (L : List (Int × Int)) : bTo x L L.length = L.map (bmp x) := by simp [bTo]
theorem bTo_at (x : Int) (L : List (Int × Int)) (j : Nat) (h : j < L.length) : (bTo x L j)[j]? = some L[j] := by
  unfold bTo
  have hl : ((L.take j).map (bmp x)).length = j := by simp; omega
  rw [List.getElem?_append_right (by omega), hl]
  simp [h]
theorem bTo_succ (x : Int) (L : List (Int × Int)) (j : Nat) (h : j < L.length) : bTo x L (j+1) = (bTo x L j).set j (bmp x L[j]) := by
  unfold bTo
  have hl : ((L.take j).map (bmp x)).length = j := by simp; omega
  rw [List.set_append_right _ _ (by omega), hl, Nat.sub_self, List.drop_eq_getElem_cons h, List.set_cons_zero, take_snoc L j h, List.map_append]
  simp
theorem encP_set (Q : List (Int × Int)) (j : Nat) (a c c' : Int) (h : Q[j]? = some (a, c)) : (Q.flatMap encP).set (j * 2 + 1) (.int .i64 c') = (Q.set j (a, c')).flatMap encP := by
  induction Q generalizing j with
  | nil => simp at h
  | cons y Q ih =>
    cases j with
    | zero =>
      simp at h
      subst h
      simp [encP]
    | succ j =>
      have := ih j (by simpa using h)
      have e : (j + 1) * 2 + 1 = (j * 2 + 1) + 2 := by omega
      rw [e]
      simp only [List.flatMap_cons, List.set_cons_succ, encP, List.cons_append, List.nil_append]
      rw [this]
/-- what stands ahead of each attempt -/
def Dealt (ids : List Int) (p : Int) (all : Nat) (L : List (Int × Int)) : Prop :=
  L.map Prod.fst = ids ∧ sumL ids L = all ∧ ∀ y ∈ L, 0 ≤ y.2 ∧ y.2 ≤ all ∧ y.2 ≤ upI (all * p) (100 * ids.length)
theorem dealt_load {L : List (Int × Int)} {ids : List Int} (hf : L.map Prod.fst = ids) (hn : ids.Nodup) (x : Int) (hx : x ∈ ids) : (x, loadI L x) ∈ L := by
  rw [← hf] at hx hn
  obtain ⟨y, hy, rfl⟩ := List.mem_map.1 hx
  have := (loadF_mem L hn y.1 y.2).2 hy
  unfold loadI; rw [this]; exact hy
theorem load_bmp {L : List (Int × Int)} {ids : List Int} (hf : L.map Prod.fst = ids) (hn : ids.Nodup) (x z : Int) (hz : z ∈ ids) : loadI (L.map (bmp x)) z = loadI L z + if z = x then 1 else 0 := by
  have hm := dealt_load hf hn z hz
  have hn2 : ((L.map (bmp x)).map Prod.fst).Nodup := by rw [bmp_map_fst, hf]; exact hn
  have h2 : bmp x (z, loadI L z) ∈ L.map (bmp x) := List.mem_map.2 ⟨_, hm, rfl⟩
  by_cases e : z = x
  · have hb : bmp x (z, loadI L z) = (z, loadI L z + 1) := by unfold bmp; rw [if_pos e]
    rw [hb] at h2
    have := (loadF_mem _ hn2 z _).2 h2
    rw [if_pos e]; conv => lhs; unfold loadI
    rw [this]; rfl
  · have hb : bmp x (z, loadI L z) = (z, loadI L z) := by unfold bmp; rw [if_neg e]
    rw [hb] at h2
    have := (loadF_mem _ hn2 z _).2 h2
    rw [if_neg e]; conv => lhs; unfold loadI
    rw [this]; simp
theorem sum_bmp (ids : List Int) (f : Int → Int) (x : Int) (hn : ids.Nodup) (hx : x ∈ ids) : (ids.map (fun z => f z + if z = x then 1 else 0)).sum = (ids.map f).sum + 1 := by
  induction ids with
  | nil => cases hx
  | cons y ids ih =>
    rw [List.nodup_cons] at hn
    simp only [List.map_cons, List.sum_cons]
    by_cases e : y = x
    · subst e
      have : ids.map (fun z => f z + if z = y then 1 else 0) = ids.map f := List.map_congr_left (fun z hz => by
        have : z ≠ y := fun h => hn.1 (h ▸ hz)
        simp [this])
      rw [this]; simp; omega
    · have := ih hn.2 ((List.mem_cons.1 hx).resolve_left (fun h => e h.symm))
      rw [this]; simp [e]; omega
theorem dealt_next {ids : List Int} {p : Int} {all : Nat} {L : List (Int × Int)} (h : Dealt ids p all L) (hn : ids.Nodup) (hp : 0 ≤ p) (x : Int) (hx : x ∈ ids) (hc : loadI L x < capI all ids.length p) (hpos : 0 < ids.length) : Dealt ids p (all + 1) (L.map (bmp x)) := by
  obtain ⟨h1, h2, h3⟩ := h
  refine ⟨by rw [bmp_map_fst]; exact h1, ?_, ?_⟩
  · unfold sumL
    rw [List.map_congr_left (fun z hz => load_bmp h1 hn x z hz), sum_bmp ids (loadI L) x hn hx]
    unfold sumL at h2
    rw [h2]; simp
  · intro y hy
    obtain ⟨z, hz, rfl⟩ := List.mem_map.1 hy
    have h4 := h3 z hz
    have hm : upI (all * p) (100 * ids.length) ≤ upI ((all + 1) * p) (100 * ids.length) := up_mono _ _ _ (by omega) (Int.mul_le_mul_of_nonneg_right (by omega) hp)
    have e : ((all + 1 : Nat) : Int) = (all : Int) + 1 := by omega
    rw [e]
    unfold bmp
    by_cases hzx : z.1 = x
    · rw [if_pos hzx]
      have hl : loadI L x = z.2 := by
        have := (loadF_mem L (by rw [h1]; exact hn) z.1 z.2).2 hz
        rw [hzx] at this
        unfold loadI; rw [this]; rfl
      rw [hl] at hc
      unfold capI at hc
      exact ⟨by show 0 ≤ z.2 + 1; omega, by show z.2 + 1 ≤ _; omega, by show z.2 + 1 ≤ _; omega⟩
    · rw [if_neg hzx]; exact ⟨h4.1, by omega, by omega⟩
theorem dealt_start (ids : List Int) (p : Int) (hn : ids.Nodup) (hpos : 0 < ids.length) : Dealt ids p 0 (ids.map (fun x => (x, 0))) := by
  have hf : (ids.map (fun x : Int => (x, (0 : Int)))).map Prod.fst = ids := by rw [List.map_map]; simp [Function.comp_def]
  refine ⟨hf, ?_, ?_⟩
  · have : ids.map (loadI (ids.map (fun x => (x, 0)))) = ids.map (fun _ => (0 : Int)) := List.map_congr_left (fun z hz => by
      have := dealt_load hf hn z hz
      obtain ⟨y, _, e⟩ := List.mem_map.1 this
      have := congrArg Prod.snd e
      exact this.symm)
    unfold sumL
    rw [this]
    clear this hf hn hpos
    induction ids with
    | nil => rfl
    | cons y ids ih => simpa using ih
  · intro y hy
    obtain ⟨z, _, rfl⟩ := List.mem_map.1 hy
    exact ⟨Int.le_refl _, Int.le_refl _, by simpa using up_nonneg 0 (100 * ids.length) (by omega) (by omega)⟩
/-- the row of all IDs counts all -/
theorem cnt_all (key : Int) (p0 : Nat) (hp : 0 < p0) (ids : List Int) : cnt (rowOf key (pointsOf p0 ids)) ids = rowOf key (pointsOf p0 ids) :=
  List.filter_eq_self.2 (fun x hx => by rw [List.contains_iff_mem]; exact (rowOf_mem key p0 hp ids x).1 hx)
theorem row_perm (key : Int) (p0 : Nat) (hp : 0 < p0) (ids : List Int) (hn : ids.Nodup) : (rowOf key (pointsOf p0 ids)).Perm ids :=
  (List.perm_ext_iff_of_nodup (rowOf_nodup _ _) hn).2 (fun x => rowOf_mem key p0 hp ids x)
theorem deal_pick {ids : List Int} {p : Int} {all : Nat} {L : List (Int × Int)} (h : Dealt ids p all L) (hn : ids.Nodup) (hp : 100 ≤ p ∧ p ≤ 1000) (hpos : 0 < ids.length) (hl : ids.length ≤ 1000) (hall : all ≤ 1000) (key : Int) (p0 : Nat) (hp0 : 0 < p0) :
    ∃ x, pickOf (cnt (rowOf key (pointsOf p0 ids)) ids) L p = some x ∧ x ∈ ids ∧ loadI L x < capI all ids.length p := by
  rw [cnt_all key p0 hp0]
  have hpm := row_perm key p0 hp0 ids hn
  have hlen := hpm.length_eq
  have hs := sumL_perm L hpm
  rcases pick_iff (rowOf key (pointsOf p0 ids)) L p (by omega) (fun y hy => by have := h.2.2 y hy; omega) hp with ⟨h0, _⟩ | ⟨_, x, h1, h2, h3⟩
  · rw [h0] at hlen; simp at hlen; omega
  · rw [hs, h.2.1, hlen] at h3
    exact ⟨x, h1, hpm.mem_iff.1 h2, h3⟩
theorem any_succ (L : List (Int × Int)) (x : Int) (j : Nat) (h : j < L.length) : (L.take (j+1)).any (fun y => y.1 == x) = ((L.take j).any (fun y => y.1 == x) || L[j].1 == x) := by
  rw [take_snoc L j h, List.any_append]; simp
theorem bTo_stay (x : Int) (L : List (Int × Int)) (j : Nat) (h : j < L.length) (hx : L[j].1 ≠ x) : bTo x L (j+1) = bTo x L j := by
  have hb : bmp x L[j] = L[j] := by unfold bmp; rw [if_neg hx]
  unfold bTo
  rw [take_snoc L j h, List.map_append, List.drop_eq_getElem_cons h]
  simp [hb]
theorem bTo_bump (x : Int) (L : List (Int × Int)) (j : Nat) (h : j < L.length) (c : Int) (hx : L[j] = (x, c)) : bTo x L (j+1) = (bTo x L j).set j (x, c + 1) := by
  rw [bTo_succ x L j h, hx]; unfold bmp; simp
theorem bTo_new (x : Int) (L : List (Int × Int)) (j : Nat) (h : j < L.length) (c : Int) (hx : L[j] = (x, c)) : (bTo x L (j+1))[j]? = some (x, c + 1) := by
  rw [bTo_bump x L j h c hx, List.getElem?_set_self (by rw [bTo_len]; exact h)]
theorem any_key (L : List (Int × Int)) (ids : List Int) (hf : L.map Prod.fst = ids) (x : Int) (hx : x ∈ ids) : L.any (fun y => y.1 == x) = true := by
  rw [← hf] at hx
  obtain ⟨y, hy, rfl⟩ := List.mem_map.1 hx
  exact List.any_eq_true.2 ⟨y, hy, by simp⟩
theorem uints_at {w : World} {a : Option Addr} {n cap : Nat} {xs : List Int} (h : UInts w (.slice a n cap) xs) (i : Nat) (hi : i < xs.length) :
    ∃ b off, a = some ⟨b, off, none⟩ ∧ b < w.heap.size ∧ w.cell? ⟨b, off + i, none⟩ = some (.int .u64 xs[i]) := by
  obtain ⟨_, a', cap', hv, _, hc⟩ := h
  cases hv
  obtain ⟨b, off, ha, hb, hc⟩ := hc i xs[i] (List.getElem?_eq_getElem hi)
  exact ⟨b, off, ha, hb, by simpa using hc 0 _ rfl⟩
end Go.Proofs.Ytfmoiepjbkhjfaa
