/- draw: the contracts of Draws. -/
import Derived.Laws.EntriesVeiled
import Derived.Shelf.SlicesE.Clone
import Derived.Ground.SlgnProg
import Derived.Test.YtoncfogihiapiaaBndF
namespace Go.Proofs
open Go.Shelf
def Try.lClone_ren : Go.Shelf.Ren := ⟨fun | 41 => 24 | n => n, fun | 22 => 51 | 23 => 29 | 4 => 4 | n => n, fun | n => n⟩
theorem Try.lClone : Go.Proofs.SlLaysE0.n41 Try.prog Try.lClone_ren := {
  mixed := by kernel_rfl
  f41 := ⟨Try.f24.name, by decide, Try.func24.trans (congrArg some (by kernel_rfl))⟩
  t4 := Try.underlying4
  a4 := Try.isAgg4
  z4 := Try.sizeOf4
  v4 := Try.zeroValue4
  t22 := Try.underlying51
  a22 := Try.isAgg51
  z22 := Try.sizeOf51
  v22 := Try.zeroValue51 }
end Go.Proofs
namespace Go.Proofs.Ytoncfogihiapiaa
open Go.ChangeShapes Go.WideShapes Go.ChangeAt Go.RowKit Go.Maps Go.Shelf
theorem uints_at {w : World} {a : Option Addr} {n cap : Nat} {xs : List Int} (h : UInts w (.slice a n cap) xs) (i : Nat) (hi : i < xs.length) :
    ∃ b off, a = some ⟨b, off, none⟩ ∧ b < w.heap.size ∧ w.cell? ⟨b, off + i, none⟩ = some (.int .u64 xs[i]) := by
  obtain ⟨_, a', cap', hv, _, hc⟩ := h
  cases hv
  obtain ⟨b, off, ha, hb, hc⟩ := hc i xs[i] (List.getElem?_eq_getElem hi)
  exact ⟨b, off, ha, hb, by simpa using hc 0 _ rfl⟩
/-- draws in block B: what is said and not yet drawn; how many were drawn -/
def DrawsAt (w : World) (B : Nat) (said : List Int) (used : Nat) : Prop :=
  ∃ f sv seed, w.heap[B]? = some (.cells #[.func (.func f) #[] #[], sv, .int .u64 seed, .int .i64 used] 54 (0, 0)) ∧ U64 seed ∧ (∀ x ∈ said, U64 x) ∧
    ((said = [] ∧ f = 23) ∨ (said ≠ [] ∧ f = 25 ∧ ∃ ad cap, sv = .slice (some ad) said.length cap ∧ UInts w sv said ∧ ad.block ≠ B))
theorem DrawsAt.lt {w : World} {B : Nat} {said : List Int} {used : Nat} (h : DrawsAt w B said used) : B < w.heap.size := by
  obtain ⟨f, sv, seed, hb, _⟩ := h
  exact (Array.getElem?_eq_some_iff.1 hb).1
theorem DrawsAt.ext {w w' : World} {B : Nat} {said : List Int} {used : Nat} (h : DrawsAt w B said used) (e : Ext w w') : DrawsAt w' B said used := by
  obtain ⟨f, sv, seed, hb, h1, h2, h3⟩ := h
  refine ⟨f, sv, seed, (e.block B (Array.getElem?_eq_some_iff.1 hb).1).trans hb, h1, h2, ?_⟩
  rcases h3 with h | ⟨ha, hf, ad, cap, hs, hu, hn⟩
  · exact .inl h
  · exact .inr ⟨ha, hf, ad, cap, hs, hu.ext e, hn⟩
theorem cell_dr {w : World} {B : Nat} {a b c d : Value} {t : TypeId} (h : w.heap[B]? = some (.cells #[a, b, c, d] t (0, 0))) :
    w.cell? ⟨B, 0, none⟩ = some a ∧ w.cell? ⟨B, 1, none⟩ = some b ∧ w.cell? ⟨B, 2, none⟩ = some c ∧ w.cell? ⟨B, 3, none⟩ = some d ∧ w.frozen? ⟨B, 0, none⟩ = false ∧ w.frozen? ⟨B, 1, none⟩ = false ∧ w.frozen? ⟨B, 2, none⟩ = false ∧ w.frozen? ⟨B, 3, none⟩ = false := by
  refine ⟨?_, ?_, ?_, ?_, ?_, ?_, ?_, ?_⟩ <;> simp [World.cell?, World.frozen?, h]
theorem set_dr {w : World} {B : Nat} {cs : Array Value} {t : TypeId} (h : w.heap[B]? = some (.cells cs t (0, 0))) (j : Nat) (u : Value) : (w.setCell ⟨B, j, none⟩ u).heap[B]? = some (.cells (cs.setIfInBounds j u) t (0, 0)) := by
  obtain ⟨hlt, hk⟩ := Array.getElem?_eq_some_iff.1 h
  show (w.heap.modify B _)[B]? = _
  rw [Array.getElem?_eq_getElem (by rw [Array.size_modify]; exact hlt), Array.getElem_modify_self, hk]
  rfl
theorem grown_set (w : World) (B j : Nat) (u : Value) : w.grownBy (w.setCell ⟨B, j, none⟩ u) (some B) :=
  ⟨rfl, rfl, rfl, by show _ ≤ (w.heap.modify B _).size; rw [Array.size_modify]; exact Nat.le_refl _, fun k _ hk => Below.heap_setCell w _ u k (by simp; exact fun e => hk (by rw [e]))⟩
theorem uints_grown {w w' : World} {v : Value} {xs : List Int} {B : Nat} {ad : Addr} {n cap : Nat} (h : UInts w v xs) (hv : v = .slice (some ad) n cap) (hn : ad.block ≠ B) (hg : w.grownBy w' (some B)) : UInts w' v xs := by
  obtain ⟨h1, a, c, h2, h3, h4⟩ := h
  refine ⟨h1, a, c, h2, h3, fun i x hi => ?_⟩
  obtain ⟨b, off, ha, hb, hc⟩ := h4 i x hi
  have hbn : b ≠ B := by
    rw [hv] at h2
    cases h2
    cases ha
    exact hn
  have hbl := hg.block b hb (fun e => hbn (by cases e; rfl))
  refine ⟨b, off, ha, Nat.lt_of_lt_of_le hb hg.size, fun k u hk => ?_⟩
  have := hc k u hk
  simp only [World.cell?, hbl] at this ⊢
  exact this
theorem uints_tail {w : World} {b off cap : Nat} {x : Int} {xs : List Int} (h : UInts w (.slice (some ⟨b, off, none⟩) (x :: xs).length cap) (x :: xs)) : UInts w (.slice (some ⟨b, off + 1 * 1, none⟩) ((x :: xs).length - 1) (cap - 1)) xs := by
  have := Sl.drop h 1 (by simp)
  simpa using this
theorem scr_bd' (z : Int) (hz : U64 z) : U64 (scr z) := scr_bd z
end Go.Proofs.Ytoncfogihiapiaa
