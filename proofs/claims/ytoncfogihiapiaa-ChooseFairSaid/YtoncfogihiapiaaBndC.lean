
/- bound.loadsOf. -/
import Derived.Test.YtoncfogihiapiaaBndB
namespace Go.Proofs.Ytoncfogihiapiaa
open Go.ChangeShapes Go.WideShapes Go.ChangeAt Go.RowKit Go.Maps
theorem LoadsAt.mono {w : World} {b n n' : Nat} {f : Int → Option Int} (h : LoadsAt w b n f) (hn : n ≤ n') : LoadsAt w b n' f := by
  obtain ⟨D, h1, h2⟩ := h; exact ⟨D, h1.mono hn, h2⟩
theorem loadF_put (L : List (Int × Int)) (k : Nat) (h : k < L.length) (hn : (loadF (L.take k) L[k].1).isSome = false) : (fun y => loadF (L.take (k+1)) y) = fun y => if y = L[k].1 then some L[k].2 else loadF (L.take k) y := by
  funext y
  rw [loadF_succ L k h]
  by_cases hy : y = L[k].1
  · subst hy
    have hn' : loadF (L.take k) L[k].1 = none := by simpa using hn
    rw [hn', if_pos rfl]
  · simp only [if_neg hy]
    cases loadF (L.take k) y with
    | none => rfl
    | some c => rfl
theorem loadF_stay (L : List (Int × Int)) (k : Nat) (h : k < L.length) (hn : (loadF (L.take k) L[k].1).isSome = true) : (fun y => loadF (L.take (k+1)) y) = fun y => loadF (L.take k) y := by
  funext y
  rw [loadF_succ L k h]
  cases hf : loadF (L.take k) y with
  | some c => rfl
  | none =>
    by_cases hy : y = L[k].1
    · subst hy; rw [hf] at hn; simp at hn
    · simp [hy]
set_option maxRecDepth 100000 in
set_option maxHeartbeats 2000000 in
theorem loadsOf_any (L : List (Int × Int)) (v : Value) (w : World) (hl : Parts w v L) (hll : L.length ≤ 1000) (hli : ∀ x ∈ L, I64 x.1 ∧ I64 x.2) :
    Calls Try.prog 43 #[v] w fun e w' => e = .returned (.map (some w.heap.size)) ∧ LoadsAt w' w.heap.size L.length (loadF L) ∧ Ext w w' := by
  obtain ⟨_, a, cap, rfl⟩ := hl.shape
  have hl1 : (L.length : Int) ≤ 1000 := by omega
  have HL := hide hl
  have HLI := hide hli
  clear hl hli
  have hmm := run_makeMap_hint Try.underlying76 .i64 L.length
  go_enter Try.func43, Try.ntmps43
  go_wp2
  have b0 : Ext w (w.alloc (.map #[] 0)) := (Below.refl _ _).alloc (Nat.le_refl _) _
  go_loopw [13] (fun i wr => ∃ k : Nat, k ≤ L.length ∧ i = .int .i64 k ∧ LoadsAt wr w.heap.size k (fun y => loadF (L.take k) y) ∧ Ext w wr)
    (fun i _ => L.length - (intOf i).toNat)
  case atStart => exact ⟨0, Nat.zero_le _, rfl, loads_made w, b0⟩
  case round =>
    obtain ⟨k, hk, rfl, hld, hext⟩ := hrel
    by_cases hlt : k < L.length
    · obtain ⟨b, off, rfl, hbb, hc1, hc2⟩ := parts_at (HL.out.ext hext) k hlt
      have hx := HLI.out _ (List.getElem_mem hlt)
      have hp := loadF_put L k hlt
      have hst := loadF_stay L k hlt
      have hsz := hext.size
      obtain ⟨⟨x, c⟩, hxx⟩ : ∃ x, L[k] = x := ⟨_, rfl⟩
      rw [hxx] at hc1 hc2 hx hp hst
      have hx1 := hx.1
      have hx2 := hx.2
      have HX1 := hide hx1
      have HX2 := hide hx2
      have HP := hide hp
      have HST := hide hst
      clear hx hxx hp hst hx1 hx2
      by_cases hin : (loadF (L.take k) x).isSome = true
      · have HIN := hide hin
        clear hin
        go_wp2_with (first
          | (at_lookup; refine wpList_loads_look_ok _ rfl _ _ rfl w.heap.size k _ rfl (hld.alloc _) x HX1.out _ rfl true HIN.out rfl ?_))
        go_roundw
        case rel =>
          refine ⟨k + 1, hlt, by go_num, ?_, Below.alloc hext hsz _⟩
          rw [HST.out HIN.out]; exact (hld.alloc _).mono (Nat.le_succ k)
        case measure => simp [intOf]; omega
      · have hin' : (loadF (L.take k) x).isSome = false := by simpa using hin
        have HIN := hide hin'
        clear hin hin'
        go_wp2_with (first
          | (at_lookup; refine wpList_loads_look_ok _ rfl _ _ rfl w.heap.size k _ rfl (hld.alloc _) x HX1.out _ rfl false HIN.out rfl ?_)
          | (at_mapUpdate; refine wpList_loads_put _ rfl _ _ _ rfl w.heap.size k _ rfl (hld.alloc _) (by unfold maxLen; omega) x HX1.out rfl c HX2.out rfl ?_; intro w2 hld2 hgrow2))
        go_roundw
        case rel =>
          refine ⟨k + 1, hlt, by go_num, ?_, Below.grown (Below.alloc hext hsz _) hgrow2 (by simp; omega) (fun j hj => by cases hj; exact Nat.le_refl _)⟩
          rw [HP.out HIN.out]; exact hld2
        case measure => simp [intOf]; omega
    · obtain rfl : k = L.length := by omega
      rw [List.take_length] at hld
      go_wp2
      go_ret
      exact ⟨rfl, hld, hext⟩
end Go.Proofs.Ytoncfogihiapiaa
