/- draw.New, choose.Load. -/
import Derived.Test.YtoncfogihiapiaaChB
namespace Go.Proofs.Ytoncfogihiapiaa
open Go.ChangeShapes Go.WideShapes Go.ChangeAt Go.RowKit Go.Maps Go.Shelf
theorem Try.infoU : (Try.prog.info? 29).map (fun i => (i.zero, i.size, i.bytes)) = some (some (.int .u64 0), 1, 8) := by kernel_rfl
theorem encU_len (x : Int) : (encU x).length = 1 := rfl
theorem own_uints {w : World} {base : Nat} {e : TypeId} {v : Value} {n : Nat} {zs : List Int} (h : w.ownsRow base e 1 v n (zs.flatMap encU)) (hl : zs.length ≤ 9223372036854775807) : UInts w v zs := by
  have hn : zs.length = n := by have := h.1; rw [length_flatMap_enc encU_len] at this; omega
  subst hn
  exact Sl.of_own (enc := encU) (size := 1) encU_len h hl
theorem clone_any (xs : List Int) (b off cap : Nat) (w : World) (h : UInts w (.slice (some ⟨b, off, none⟩) xs.length cap) xs) (hl : xs.length ≤ 1000) :
    Calls Try.prog 24 #[.slice (some ⟨b, off, none⟩) xs.length cap] w fun e w' => ∃ v', e = .returned v' ∧ w'.ownsRow w.heap.size 29 1 v' xs.length (xs.flatMap encU) ∧ v' ≠ .slice none 0 0 ∧ Ext w w' := by
  obtain ⟨i0, hi, hz0, hz1, hz2⟩ := info_parts' Try.infoU
  have hone : ∀ u ∈ xs.flatMap encU, u.oneCell' = true := by
    intro u hu
    obtain ⟨x, _, hx⟩ := List.mem_flatMap.1 hu
    simp [encU] at hx; subst hx; rfl
  have hcon := AnyE.slices_Clone Try.lClone i0 (.int .u64 0) 1 8 hi hz0 hz1 hz2 rfl (by decide) (fun w => by kernel_rfl) b off xs.length cap (xs.flatMap encU) w (by rw [length_flatMap_enc encU_len]) (by unfold maxLen; omega) (by omega)
    (fun j u hj => by have := h.news encU_len (by decide) j u hj; rw [Addr.add_lit] at this; exact this) hone
  exact hcon
set_option maxRecDepth 100000 in
set_option maxHeartbeats 1000000 in
theorem newD_nil (seed : Int) (w : World) (hs : U64 seed) :
    Calls Try.prog 14 #[.int .u64 seed, .slice none 0 0] w fun e w' => ∃ B, e = .returned (.pointer (some ⟨B, 0, none⟩)) ∧ DrawsAt w' B [] 0 ∧ w.heap.size ≤ B ∧ Ext w w' := by
  go_enter Try.func14, Try.ntmps14
  go_wp2_with fail
  go_ret
  refine ⟨w.heap.size, rfl, ?_, Nat.le_refl _, (Below.refl _ _).alloc (Nat.le_refl _) _⟩
  exact ⟨_, _, seed, heap_alloc_new w _, hs, by simp, .inl ⟨rfl, rfl⟩⟩
set_option maxRecDepth 100000 in
set_option maxHeartbeats 2000000 in
theorem newD_said (seed : Int) (v : Value) (xs : List Int) (w : World) (hs : U64 seed) (hx : UInts w v xs) (hne : xs ≠ []) (hl : xs.length ≤ 1000) (h64 : ∀ x ∈ xs, U64 x) :
    Calls Try.prog 14 #[.int .u64 seed, v] w fun e w' => ∃ B, e = .returned (.pointer (some ⟨B, 0, none⟩)) ∧ DrawsAt w' B xs 0 ∧ w.heap.size ≤ B ∧ Ext w w' := by
  have hpos := List.length_pos_iff.2 hne
  obtain ⟨hll, a, cap, rfl⟩ := hx.shape
  obtain ⟨b, off, rfl, hb, _⟩ := uints_at hx 0 hpos
  have hlz : (0 : Int) < xs.length := by omega
  have hcl : ∀ u : World, Ext w u → Calls Try.prog 24 #[.slice (some ⟨b, off, none⟩) xs.length cap] u fun e w' => ∃ v', e = .returned v' ∧ w'.ownsRow u.heap.size 29 1 v' xs.length (xs.flatMap encU) ∧ v' ≠ .slice none 0 0 ∧ Ext u w' := fun u hu => clone_any xs b off cap u (hx.ext hu) hl
  have HCL := hide hcl
  have HX := hide h64
  have HS := hide hs
  clear hcl h64 hs
  have e0 : Ext w (w.alloc (.cells #[.func (.func 23) #[] #[], .slice none 0 0, .int .u64 seed, .int .i64 0] 54)) := (Below.refl _ _).alloc (Nat.le_refl _) _
  have h0 := heap_alloc_new w (.cells #[.func (.func 23) #[] #[], .slice none 0 0, .int .u64 seed, .int .i64 0] 54)
  have H0 := hide h0
  clear h0
  go_enter Try.func14, Try.ntmps14
  go_wp2_with fail
  refine (HCL.out _ e0).mono ?_
  rintro e w1 ⟨v1, rfl, ho, hnn, E1⟩
  have hB1 := (E1.block w.heap.size (by simp)).trans H0.out
  obtain ⟨c0, c1, c2, c3, f0, f1, f2, f3⟩ := cell_dr hB1
  have hlt := ho.lt
  have hux := own_uints ho (by omega)
  obtain ⟨g, c', hv, hgb⟩ : ∃ g c', v1 = .slice (some ⟨g, 0, none⟩) xs.length c' ∧ w.heap.size < g := by
    rcases ho.2 with ⟨e, _⟩ | ⟨g, c', cur, e, hb', _⟩
    · exact absurd e hnn
    · exact ⟨g, c', e, by simp at hb'; omega⟩
  subst hv
  have h1 := set_dr hB1 1 (.slice (some ⟨g, 0, none⟩) xs.length c')
  obtain ⟨d0, d1, d2, d3, g0, g1, g2, g3⟩ := cell_dr h1
  have h2 := set_dr h1 0 (.func (.func 25) #[] #[])
  have H2 := hide h2
  have HUX := hide (uints_grown hux rfl (show g ≠ w.heap.size by omega) (grown_trans (grown_set w1 w.heap.size 1 (.slice (some ⟨g, 0, none⟩) xs.length c')) (grown_set _ w.heap.size 0 (.func (.func 25) #[] #[]))))
  have hE := ((e0.trans E1).setCell (p := ⟨w.heap.size, 1, none⟩) (Nat.le_refl _) (.slice (some ⟨g, 0, none⟩) xs.length c')).setCell (p := ⟨w.heap.size, 0, none⟩) (Nat.le_refl _) (.func (.func 25) #[] #[])
  have HE := hide hE
  clear h1 h2 hux hE ho hlt hB1
  go_wp2_with fail
  go_ret
  exact ⟨w.heap.size, rfl, ⟨_, _, seed, H2.out, HS.out, HX.out, .inr ⟨hne, rfl, ⟨g, 0, none⟩, c', rfl, HUX.out, by show g ≠ w.heap.size; omega⟩⟩, Nat.le_refl _, HE.out⟩
set_option maxRecDepth 100000 in
set_option maxHeartbeats 2000000 in
theorem cload_any (L : List (Int × Int)) (n : Int) (v : Value) (w : World) (hs : Parts w v L) :
    Calls Try.prog 9 #[v, .int .i64 n] w fun e w' => e = .returned (.int .i64 (loadI L n)) ∧ Ext w w' := by
  obtain ⟨hl, a, cap, rfl⟩ := hs.shape
  have HC := hide hs; clear hs
  go_enter Try.func9, Try.ntmps9
  go_wp2
  go_loopw [9] (fun i wr => ∃ k : Nat, k ≤ L.length ∧ i = .int .i64 k ∧ loadF (L.take k) n = none ∧ Ext w wr)
    (fun i _ => L.length - (intOf i).toNat)
  case atStart => exact ⟨0, Nat.zero_le _, rfl, by simp [loadF], Below.refl _ _⟩
  case round =>
    obtain ⟨k, hk, rfl, hno, hext⟩ := hrel
    by_cases hlt : k < L.length
    · obtain ⟨b, off, rfl, hbb, hc1, hc2⟩ := parts_at (HC.out.ext hext) k hlt
      have hcs := loadF_succ L k hlt n
      rw [hno] at hcs
      have hsz := hext.size
      have hat : loadF (L.take (k+1)) n = some L[k].2 → loadI L n = L[k].2 := fun h => by
        unfold loadI
        have e : loadF L n = some L[k].2 := loadF_take L (k+1) n _ h
        rw [e]; rfl
      obtain ⟨⟨x, c⟩, hx⟩ : ∃ x, L[k] = x := ⟨_, rfl⟩
      rw [hx] at hc1 hc2 hcs hat
      clear hx hno
      by_cases he : x = n
      · subst he
        have hin : loadI L x = c := hat (by rw [hcs]; exact if_pos rfl)
        have HIN := hide hin
        clear hin hcs hat
        go_wp2
        go_ret
        exact ⟨ret_int HIN.out.symm, Below.alloc hext hsz _⟩
      · have hne : (x == n) = false := by simp [he]
        have hcs2 : loadF (L.take (k+1)) n = none := by rw [hcs]; exact if_neg (fun e => he e.symm)
        have HCS := hide hcs2
        clear hcs he hcs2 hat
        go_wp2
        go_roundw
        case rel => exact ⟨k + 1, hlt, by go_num, HCS.out, Below.alloc hext hsz _⟩
        case measure => simp [intOf]; omega
    · obtain rfl : k = L.length := by omega
      rw [List.take_length] at hno
      have hz : loadI L n = 0 := by unfold loadI; rw [hno]; rfl
      have HN := hide hz; clear hno hz
      go_wp2
      go_ret
      exact ⟨ret_int HN.out.symm, hext⟩
end Go.Proofs.Ytoncfogihiapiaa
