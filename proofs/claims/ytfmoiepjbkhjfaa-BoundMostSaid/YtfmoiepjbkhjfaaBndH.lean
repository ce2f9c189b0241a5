/- Plain law of layer 10's picks; helpers. -/
import Derived.Test.YtfmoiepjbkhjfaaBndCp
namespace Go.Proofs.Ytfmoiepjbkhjfaa
open Go.ChangeShapes Go.WideShapes Go.ChangeAt Go.RowKit Go.Maps Go.Shelf
theorem idsI_64 (l : List Int) : ∀ x ∈ idsI l, I64 x := fun x hx => by have := idsI_bd l x hx; unfold I64; omega
theorem loadsI_64 (l : List Int) : ∀ x ∈ loadsI l, I64 x.1 := fun x hx => by have := loadsI_bd l x hx; unfold I64; omega
theorem loadsI_02 (l : List Int) : ∀ x ∈ loadsI l, 0 ≤ x.2 ∧ x.2 ≤ 2000000 := fun x hx => by have := loadsI_bd l x hx; omega
theorem own_parts {w : World} {base : Nat} {e : TypeId} {v : Value} {n : Nat} {L : List (Int × Int)} (h : w.ownsRow base e 2 v n (L.flatMap encP)) (hl : L.length ≤ 9223372036854775807) : Parts w v L := by
  have hn : L.length = n := by have := h.1; rw [length_flatMap_enc encP_len'] at this; omega
  subst hn
  exact Sl.of_own (enc := encP) (size := 2) encP_len' h hl
/-- Pick at a ring of IDs -/
theorem pickI_any (l S : List Int) (L : List (Int × Int)) (p0 : Nat) (key p : Int) (r u t : Value) (w : World) (hr : RingAt w r (ends (idsI l)).length (pointsOf p0 (idsI l))) (hs : Ints w u S) (ht : Parts w t L)
    (hp0 : 0 < p0) (hSl : S.length ≤ 1000) (hSb : ∀ x ∈ S, I64 x) (hLl : L.length ≤ 1000) (hL1 : ∀ x ∈ L, I64 x.1) (hL2 : ∀ x ∈ L, 0 ≤ x.2 ∧ x.2 ≤ 2000000) (hp : 0 ≤ p ∧ p ≤ 1100) :
    Calls Try.prog 30 #[r, .int .u64 key, u, t, .int .i64 p] w fun e w' => e = .returned (.tuple #[.int .i64 ((pickOf (cnt (rowOf key (pointsOf p0 (idsI l))) S) L p).getD 0), .bool (pickOf (cnt (rowOf key (pointsOf p0 (idsI l))) S) L p).isSome]) ∧ Ext w w' :=
  pick_any (idsI l) S L p0 key p r u t w hr hs ht hp0 (by have := idsI_len l; omega) (idsI_64 l) hSl hSb hLl hL1 hL2 hp
theorem row_bd (key : Int) (p0 : Nat) (hp : 0 < p0) (l : List Int) : (rowOf key (pointsOf p0 (idsI l))).length ≤ 12 ∧ ∀ x ∈ rowOf key (pointsOf p0 (idsI l)), 1 ≤ x ∧ x ≤ 9 :=
  ⟨Nat.le_trans (rowOf_le key p0 hp _) (idsI_len l).2, fun x hx => idsI_bd l x ((rowOf_mem key p0 hp _ x).1 hx)⟩
theorem cnt_le (row S : List Int) : (cnt row S).length ≤ row.length := List.length_filter_le _ _
/-- of some that are no more loaded than the bound in the mean, one is loaded less -/
theorem pigeonL (R : List Int) (L : List (Int × Int)) (p : Int) (hne : R ≠ []) (hl : R.length ≤ 1000) (hL : ∀ x ∈ L, 0 ≤ x.2 ∧ x.2 ≤ 2000000) (hp : 100 ≤ p ∧ p ≤ 1000) : (pickOf R L p).isSome = true := by
  cases hf : pickOf R L p with
  | some c => rfl
  | none =>
    exfalso
    have hpos := List.length_pos_iff.2 hne
    have hb := sumL_bd R L 2000000 (by omega) hL
    have hc := cap_bd (sumL R L) R.length p (by omega) (by omega) hp
    have hall : ∀ x ∈ R, capI (sumL R L) R.length p ≤ loadI L x := fun x hx => by
      have := List.find?_eq_none.1 hf x hx
      simpa using this
    have hsum : ∀ (C : Int) (Q : List Int), (∀ x ∈ Q, C ≤ loadI L x) → C * Q.length ≤ sumL Q L := by
      intro C Q
      unfold sumL
      induction Q with
      | nil => intro _; simp
      | cons x Q ih =>
        intro h
        have h1 := ih (fun y hy => h y (List.mem_cons_of_mem _ hy))
        have h2 := h x (by simp)
        simp only [List.map_cons, List.sum_cons, List.length_cons]
        have e : C * ((Q.length + 1 : Nat) : Int) = C * (Q.length : Int) + C := by rw [Int.natCast_add, Int.mul_add]; simp
        omega
    have := hsum _ R hall
    omega
theorem pick_iff (R : List Int) (L : List (Int × Int)) (p : Int) (hl : R.length ≤ 1000) (hL : ∀ x ∈ L, 0 ≤ x.2 ∧ x.2 ≤ 2000000) (hp : 100 ≤ p ∧ p ≤ 1000) : (R = [] ∧ pickOf R L p = none) ∨ (R ≠ [] ∧ ∃ x, pickOf R L p = some x ∧ x ∈ R ∧ loadI L x < capI (sumL R L) R.length p) := by
  by_cases h : R = []
  · subst h; exact .inl ⟨rfl, rfl⟩
  · have hs := pigeonL R L p h hl hL hp
    obtain ⟨x, hx⟩ := Option.isSome_iff_exists.1 hs
    refine .inr ⟨h, x, hx, List.mem_of_find?_eq_some hx, ?_⟩
    have := List.find?_some hx
    simpa using this
theorem two_cell {w : World} {g : Nat} {k0 k1 : Int} {t : TypeId} (h : w.heap[g]? = some (.cells #[.int .i64 k0, .int .i64 k1] t (0, 0))) (k : Nat) (hk : k < 2) : ∃ z, (z = k0 ∨ z = k1) ∧ w.cell? ⟨g, k, none⟩ = some (.int .i64 z) := by
  match k, hk with
  | 0, _ => exact ⟨k0, .inl rfl, by simp [World.cell?, h]⟩
  | 1, _ => exact ⟨k1, .inr rfl, by simp [World.cell?, h]⟩
end Go.Proofs.Ytfmoiepjbkhjfaa
