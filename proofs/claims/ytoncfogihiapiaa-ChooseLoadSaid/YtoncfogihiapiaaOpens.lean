/- Arguments that are slices of structs of two integers, opened. -/
import Derived.Deep.Slices
import Derived.Test.YtoncfogihiapiaaBase
namespace Go.Proofs.Ytoncfogihiapiaa
open Go.ChangeShapes Go.WideShapes Go.ChangeAt Go.RowKit

theorem listOf {α : Type} {P : Nat → α → Prop} : ∀ (n : Nat), (∀ i, i < n → ∃ x, P i x) → ∃ l : List α, l.length = n ∧ ∀ i x, l[i]? = some x → P i x
  | 0, _ => ⟨[], rfl, fun i x h => by simp at h⟩
  | n + 1, h => by
    obtain ⟨l, hl, hp⟩ := listOf n (fun i hi => h i (by omega))
    obtain ⟨x, hx⟩ := h n (by omega)
    refine ⟨l ++ [x], by simp [hl], fun i y hy => ?_⟩
    rw [List.getElem?_append] at hy
    split at hy
    · exact hp i y hy
    · have hi : i - l.length = 0 := by
        have := (List.getElem?_eq_some_iff.1 hy).1
        simp at this; omega
      rw [hi] at hy
      simp at hy
      subst hy
      have : i = n := by omega
      subst this; exact hx

theorem pairs_open {H : Type} {enc : TypeId × Value → H} {P : Program} {w : World} {base : Nat} {spare : Nat → Bool} {held : Bool} {t e : TypeId} {f0 f1 : Field} {r : Reach} {b0 : Nat} {v : Value} {d : DataW H} {pl : List MemPlace}
    (ht : P.underlying t = some (.slice e)) (he : P.underlying e = some (.struct #[f0, f1])) (hC : P.cellsOf e = 2) (h0 : f0.offset = 0) (h1 : f1.offset = 1)
    (hc0 : P.cellsOf f0.type = 1) (hc1 : P.cellsOf f1.type = 1) (hu0 : P.underlying f0.type = some (.int .i64)) (hu1 : P.underlying f1.type = some (.int .i64))
    (hv : Value.okWide P w r b0 t v) (h : DataW.Trod enc P w base spare held t v d pl) :
    ∃ ps, Parts w v ps ∧ ∀ p ∈ ps, I64 p.1 ∧ I64 p.2 := by
  obtain ⟨a, len, cap, rfl⟩ := okWide_slice ht hv
  obtain ⟨fuel, hf⟩ := h
  rcases Go.Deep.open_slice ht hf with ⟨hcs, _⟩ | ⟨a', len', cap', m, n, D, Pl, hcs, _, hl, hm, hmm, _, hx⟩
  · simp [Value.cells] at hcs
    obtain ⟨rfl, rfl, rfl⟩ := hcs
    exact ⟨[], ⟨by simp, none, 0, rfl, by simp, fun i x hi => by simp at hi⟩, fun p hp => by simp at hp⟩
  · simp [Value.cells] at hcs
    obtain ⟨rfl, rfl, rfl⟩ := hcs
    have hlm : len ≤ m := by rw [hmm]; split <;> omega
    have key : ∀ i, i < len → ∃ p : Int × Int, ((w.cell? (a'.add (i * 2)) = some (.int .i64 p.1) ∧ w.cell? ((a'.add (i * 2)).add 1) = some (.int .i64 p.2)) ∧ I64 p.1 ∧ I64 p.2) := by
      intro i hi
      obtain ⟨cs', hcs', htr⟩ := hx i (by omega)
      rw [hC] at hcs'
      obtain ⟨y0, y1, n', _, hlen, g0, g1⟩ := trod_struct2 he htr
      rw [hC] at hlen
      match cs', hlen with
      | [u0, u1], _ =>
        rw [h0, hc0] at g0
        rw [h1, hc1] at g1
        obtain ⟨z0, e0, _, wf0⟩ := DataW.trod_int hu0 g0
        obtain ⟨z1, e1, _, wf1⟩ := DataW.trod_int hu1 g1
        simp at e0 e1
        subst e0 e1
        unfold World.cells? at hcs'
        split at hcs'
        · simp only [List.range_succ, List.range_zero, List.nil_append, List.cons_append, List.mapM_cons, List.mapM_nil] at hcs'
          cases q0 : w.cell? ((a'.add (i * 2)).add 0) with
          | none => simp [q0] at hcs'
          | some x0 =>
            cases q1 : w.cell? ((a'.add (i * 2)).add 1) with
            | none => simp [q0, q1] at hcs'
            | some x1 =>
              simp [q0, q1] at hcs'
              obtain ⟨rfl, rfl⟩ := hcs'
              have q0' : w.cell? (a'.add (i * 2)) = some (.int .i64 z0) := by simpa [Addr.add] using q0
              exact ⟨(z0, z1), ⟨q0', by first | exact q1 | rfl⟩, bounds_i64 wf0, bounds_i64 wf1⟩
        · cases hcs'
    obtain ⟨ps, hpl, hps⟩ := listOf len key
    refine ⟨ps, ⟨by rw [hpl]; have : maxLen = 9223372036854775807 := rfl; omega, some a', cap, by rw [hpl], by rw [hpl]; exact ⟨hl, hm⟩, ?_⟩, ?_⟩
    · intro i x hi
      have hp := hps i x hi
      have hil : i < len := by have := (List.getElem?_eq_some_iff.1 hi).1; omega
      have hx' : a' = ⟨a'.block, a'.off, none⟩ := by
        obtain ⟨x0, hx0⟩ : ∃ x, ps[0]? = some x := ⟨ps[0]'(by omega), List.getElem?_eq_getElem _⟩
        have h0 := (hps 0 x0 hx0).1.1
        cases a' with
        | mk b o s =>
          cases s with
          | none => rfl
          | some s =>
            simp only [Nat.zero_mul, Addr.add, if_true, World.cell?] at h0
            split at h0 <;> simp at h0
      have hp1 := hp.1.1
      have hp2 := hp.1.2
      rw [hx', add_cell'] at hp1 hp2
      rw [add_cell'] at hp2
      refine ⟨a'.block, a'.off, by rw [← hx'], by have := World.block_lt_of_cell? w ⟨a'.block, a'.off + i * 2, none⟩ hp1; exact this, ?_⟩
      intro j u hu
      match j, hu with
      | 0, hu => simp [encP] at hu; subst hu; exact hp1
      | 1, hu => simp [encP] at hu; subst hu; exact hp2
    · intro p hp
      obtain ⟨i, hi, rfl⟩ := List.getElem_of_mem hp
      exact (hps i _ (List.getElem?_eq_getElem hi)).2
end Go.Proofs.Ytoncfogihiapiaa
