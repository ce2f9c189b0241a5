/- choose.byRing. -/
import Derived.Test.YtoncfogihiapiaaChG
namespace Go.Proofs.Ytoncfogihiapiaa
open Go.ChangeShapes Go.WideShapes Go.ChangeAt Go.RowKit Go.Maps Go.Shelf Go.Lib
set_option maxRecDepth 100000 in
set_option maxHeartbeats 2000000 in
theorem idxr_any (R : List Int) (g : Int → Bool) (v : Value) (lb : Array Value) (w : World) (hs : Ints w v R) (h64 : ∀ x ∈ R, I64 x) (hpos : 0 < R.length)
    (hp : ∀ W : World, Ext w W → ∀ x, I64 x → Calls Try.prog 49 (#[.int .i64 x] ++ lb) W fun e w' => e = .returned (.bool (g x)) ∧ ∃ q, w' = W.drewN q) :
    Calls Try.prog 46 #[v, .func (.func 49) #[] lb] w fun e w' => ((∃ k, ∃ hk : k < R.length, e = .returned (.int .i64 (k : Int)) ∧ R.find? g = some R[k]) ∨ (e = .returned (.int .i64 (-1)) ∧ R.find? g = none)) ∧ Ext w w' := by
  obtain ⟨hl, a, cap, rfl⟩ := hs.shape
  obtain ⟨b, off, rfl, _⟩ := ints_at hs 0 hpos
  have eg : ∀ args w, (callFunc 49 args).run Try.prog w = .ok (.enter 49 args) w := enters_of Try.func49 (by kernel_rfl) rfl
  have hcon := AnyE.slices_IndexFunc Try.lIdx (fun y : N64 => .int .i64 y.1) (fun y => g y.1) 49 lb eg b off R.length cap (subs R h64) w
    (fun W x hW => hp W hW x.1 x.2) (by rw [subs_len]; exact Nat.le_refl _) (by omega) (fun j hj => by
      rw [subs_len] at hj
      obtain ⟨b', off', e, _, hc⟩ := ints_at hs j hj
      cases e
      show _ = some (Value.int .i64 ((subs R h64)[j]!).1)
      rw [subs_at R h64 j hj]; exact hc)
  change Calls Try.prog 46 _ _ _ at hcon
  refine hcon.mono ?_
  rintro e w' ⟨rfl, q, rfl⟩
  refine ⟨?_, Below.drewN' (Below.refl _ _) q⟩
  rcases idx_find R h64 g with ⟨k, hk, h1, h2⟩ | ⟨h1, h2⟩
  · exact .inl ⟨k, hk, by rw [h1], h2⟩
  · exact .inr ⟨by rw [h1], h2⟩
theorem closR_any (S : List Int) (b8 : Nat) (a : Option Addr) (cap : Nat) (W : World) (h1 : W.cell? ⟨b8, 0, none⟩ = some (.slice a S.length cap)) (hS : Ints W (.slice a S.length cap) S) (x : Int) (hx : I64 x) :
    Calls Try.prog 49 #[.int .i64 x, .pointer (some ⟨b8, 0, none⟩)] W fun e w' => e = .returned (.bool (S.contains x)) ∧ ∃ q, w' = W.drewN q := by
  have hc : Calls Try.prog 50 #[.slice a S.length cap, .int .i64 x] W fun e w' => e = .returned (.bool (S.contains x)) ∧ W = w' := by
    have h := contains_any hS x
    have e : decide (x ∈ S) = S.contains x := by rw [Bool.eq_iff_iff]; simp
    rw [e] at h
    exact h
  obtain ⟨t, ht⟩ : ∃ t, S.contains x = t := ⟨_, rfl⟩
  rw [ht] at hc ⊢
  have HC := hide hc
  clear hc hS ht
  go_enter Try.func49, Try.ntmps49
  go_wp2_with fail
  refine HC.out.mono ?_
  rintro e w' ⟨rfl, rfl⟩
  go_wp2_with fail
  go_ret
  exact ⟨rfl, 0, rfl⟩
theorem find_cnt (row S : List Int) : row.find? (fun x => S.contains x) = (cnt row S).head? := by
  unfold cnt; exact (List.head?_filter).symm
set_option maxRecDepth 100000 in
set_option maxHeartbeats 2000000 in
theorem byRing_any (row S : List Int) (u : Value) (a : Option Addr) (cap : Nat) (w : World) (hr : Ints w u row) (hs : Ints w (.slice a S.length cap) S) (h64 : ∀ x ∈ row, I64 x) :
    Calls Try.prog 29 #[u, .slice a S.length cap] w fun e w' => e = .returned (.tuple #[.int .i64 (((cnt row S).head?).getD 0), .bool ((cnt row S).head?).isSome]) ∧ Ext w w' := by
  obtain ⟨hll, a1, cap1, rfl⟩ := hr.shape
  rw [← find_cnt]
  have e0 : Ext w (w.alloc (.cells #[.slice a S.length cap] 28)) := (Below.refl _ w).alloc (Nat.le_refl _) _
  have hb := heap_alloc_new w (.cells #[.slice a S.length cap] 28)
  obtain ⟨w1, hw1⟩ : ∃ w1, w.alloc (.cells #[.slice a S.length cap] 28) = w1 := ⟨_, rfl⟩
  rw [hw1] at e0 hb
  have hc1 : w1.cell? ⟨w.heap.size, 0, none⟩ = some (.slice a S.length cap) := by simp [World.cell?, hb]
  have hlt : w.heap.size < w1.heap.size := (Array.getElem?_eq_some_iff.1 hb).1
  by_cases hpos : 0 < row.length
  · have hidx := idxr_any row (fun x => S.contains x) _ #[.pointer (some ⟨w.heap.size, 0, none⟩)] w1 (hr.ext e0) h64 hpos (fun W hW x hx => closR_any S w.heap.size a cap W ((hW.cell (p := ⟨w.heap.size, 0, none⟩) hlt).trans hc1) ((hs.ext e0).ext hW) x hx)
    have HI := hide hidx
    have HR := hide (hr.ext e0)
    obtain ⟨f, hf⟩ : ∃ f, row.find? (fun x => S.contains x) = f := ⟨_, rfl⟩
    rw [hf] at HI ⊢
    clear hidx hr hs hb hc1 hf
    go_enter Try.func29, Try.ntmps29
    go_wp2_with fail
    refine HI.out.mono ?_
    rintro e w9 ⟨⟨k, hk, rfl, hf⟩ | ⟨rfl, hf⟩, E9⟩
    · obtain ⟨b, off, rfl, hbb, hc⟩ := ints_at (HR.out.ext E9) k hk
      obtain ⟨x, hxx⟩ : ∃ x, row[k] = x := ⟨_, rfl⟩
      rw [hxx] at hc hf
      subst hf
      clear hxx
      go_wp2_with fail
      go_ret2
      exact ⟨rfl, e0.trans E9⟩
    · subst hf
      go_wp2_with fail
      go_ret2
      exact ⟨rfl, e0.trans E9⟩
  · obtain rfl : row = [] := List.eq_nil_of_length_eq_zero (by omega)
    have hidx : Calls Try.prog 46 #[.slice a1 0 cap1, .func (.func 49) #[] #[.pointer (some ⟨w.heap.size, 0, none⟩)]] w1 fun e w' => e = .returned (.int .i64 (-1)) ∧ w' = w1 := AnyE.slices_IndexFunc_empty Try.lIdx a1 cap1 _ w1
    have HI := hide hidx
    have hl0 : ([] : List Int).length = 0 := rfl
    rw [hl0]
    have hf : ([] : List Int).find? (fun x => S.contains x) = none := rfl
    rw [hf]
    clear hidx hr hs hb hc1 hf hl0
    go_enter Try.func29, Try.ntmps29
    go_wp2_with fail
    refine HI.out.mono ?_
    rintro e w9 ⟨rfl, rfl⟩
    go_wp2_with fail
    go_ret2
    exact ⟨rfl, e0⟩
end Go.Proofs.Ytoncfogihiapiaa
