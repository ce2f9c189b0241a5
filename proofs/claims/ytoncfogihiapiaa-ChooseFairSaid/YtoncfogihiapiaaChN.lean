/- Pick by two, of numbers of a seed. -/
import Derived.Test.YtoncfogihiapiaaChM
namespace Go.Proofs.Ytoncfogihiapiaa
open Go.ChangeShapes Go.WideShapes Go.ChangeAt Go.RowKit Go.Maps Go.Shelf
/-- what is told by two: the less loaded one of two unlike places -/
def ByTwo (S : List Int) (L : List (Int × Int)) (x : Int) : Prop := ∃ i j : Nat, ∃ hi : i < S.length, ∃ hj : j < S.length, i ≠ j ∧ x = lessOf L S[i] S[j]
theorem pickTwo_any (w0 w : World) (S : List Int) (L : List (Int × Int)) (a1 : Option Addr) (c1 : Nat) (a2 : Option Addr) (c2 : Nat) (B Br : Nat) (key : Int) (used : Nat) (hs : Ints w0 (.slice a1 S.length c1) S) (hL : Parts w0 (.slice a2 L.length c2) L) (he : Ext w0 w) (hB : w0.heap.size ≤ B) (hd : DrawsAt w B [] used) (hu : used ≤ 999999) (h2 : 2 ≤ S.length) (hl : S.length ≤ 1000) :
    Calls Try.prog 16 #[.int .i64 1, .pointer (some ⟨Br, 0, none⟩), .slice a1 S.length c1, .int .u64 key, .slice a2 L.length c2, .pointer (some ⟨B, 0, none⟩)] w fun e w' => ∃ x, e = .returned (.tuple #[.int .i64 x, .bool true]) ∧ ByTwo S L x ∧ DrawsAt w' B [] (used + 2) ∧ Ext w0 w' := by
  refine pick1_any w a1 S.length c1 a2 L.length c2 Br B key (fun x w' => ByTwo S L x ∧ DrawsAt w' B [] (used + 2) ∧ Ext w0 w') (by omega) (fun W hW => ?_)
  refine (byTwo_any w0 W S L (.slice a1 S.length c1) (.slice a2 L.length c2) B [] used hs hL (he.trans hW) hB (hd.ext hW) hu h2 hl).mono ?_
  rintro e w' ⟨i, j, hi, hj, hij, rfl, _, hD, hE⟩
  exact ⟨_, rfl, ⟨i, j, hi, hj, hij, rfl⟩, hD, hE⟩
theorem byTwo_mem {S : List Int} {L : List (Int × Int)} {x : Int} (h : ByTwo S L x) : x ∈ S := by
  obtain ⟨i, j, hi, hj, _, rfl⟩ := h
  unfold lessOf; split
  · exact List.getElem_mem hj
  · exact List.getElem_mem hi
/-- one that has more than all others is never told, of unlike numbers -/
theorem byTwo_not {S : List Int} {L : List (Int × Int)} {x m : Int} (h : ByTwo S L x) (hn : S.Nodup) (hm : ∀ y ∈ S, y = m ∨ loadI L y < loadI L m) : x ≠ m := by
  obtain ⟨i, j, hi, hj, hij, rfl⟩ := h
  have hne : S[i] ≠ S[j] := fun e => hij ((List.getElem_inj hn).1 e)
  have h1 := hm _ (List.getElem_mem hi)
  have h2 := hm _ (List.getElem_mem hj)
  unfold lessOf
  split
  · rename_i hlt
    intro e
    rcases h1 with h1 | h1
    · exact hne (h1.trans e.symm)
    · rw [e] at hlt; omega
  · rename_i hge
    intro e
    rcases h2 with h2 | h2
    · exact hne (e.trans h2.symm)
    · rw [e] at hge; omega
end Go.Proofs.Ytoncfogihiapiaa
