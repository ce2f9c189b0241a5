/- The references' Some and Loads of layer 12. -/
import Derived.Test.YtoncfogihiapiaaChL
namespace Go.Proofs.Ytoncfogihiapiaa
open Go.ChangeShapes Go.WideShapes Go.ChangeAt Go.RowKit Go.Maps Go.Shelf
def someI (l : List Int) : List Int := idsL (l.take 6)
theorem someI_bd (l : List Int) : ∀ x ∈ someI l, 1 ≤ x ∧ x ≤ 9 := (idsL_inv _).2.2
theorem someI_nodup (l : List Int) : (someI l).Nodup := (idsL_inv _).2.1
theorem someI_len (l : List Int) : (someI l).length ≤ l.length ∧ (someI l).length ≤ 6 := by
  have h := (idsL_inv (l.take 6)).1
  rw [List.length_take] at h
  unfold someI; omega
set_option maxRecDepth 100000 in
set_option maxHeartbeats 2000000 in
theorem some_any (l : List Int) (v : Value) (w : World) (hs : Ints w v l) (hli : ∀ x ∈ l, I64 x) :
    Calls Try.prog 12 #[v] w fun e w' => ∃ v', e = .returned v' ∧ w'.ownsRow w.heap.size 3 1 v' (someI l).length ((someI l).flatMap encI) ∧ Ext w w' := by
  obtain ⟨hl', a, cap, rfl⟩ := hs.shape
  obtain ⟨i0, hi, hz0, hz1, hz2⟩ := info_parts' Try.infoI
  have HC := hide hs; clear hs
  have HL := hide hli; clear hli
  go_enter Try.func12, Try.ntmps12
  go_wp2
  go_loopw [3, 4] (fun v i wr => ∃ k : Nat, k ≤ l.length ∧ k ≤ 6 ∧ i = .int .i64 k ∧ wr.ownsRow w.heap.size 3 1 v (idsL (l.take k)).length ((idsL (l.take k)).flatMap encI) ∧ Ext w wr)
    (fun _ i _ => l.length - (intOf i).toNat)
  case atStart => exact ⟨0, Nat.zero_le _, by omega, rfl, by simpa [idsL] using World.ownsRow_nil _ _ _ _, Below.refl _ _⟩
  case round =>
    obtain ⟨k, hk, hk9, rfl, hown, hext⟩ := hrel
    by_cases hlt : k < l.length ∧ k < 6
    · obtain ⟨hlt, hlt9⟩ := hlt
      obtain ⟨b, off, rfl, hbb, hc⟩ := ints_at (HC.out.ext hext) k hlt
      have hx : I64 l[k] := HL.out _ (List.getElem_mem hlt)
      have hsz := hext.size
      have hml := (idsL_inv (l.take k)).1
      rw [List.length_take] at hml
      have hbd := around_bd l[k] 9 (by omega)
      have hsn : idsL (l.take (k+1)) = idF (idsL (l.take k)) l[k] := by rw [take_snoc l k hlt, idsL_snoc]
      unfold idF at hsn
      obtain ⟨x, hxx⟩ : ∃ x, l[k] = x := ⟨_, rfl⟩
      rw [hxx] at hc hx hbd hsn
      obtain ⟨n, hn⟩ : ∃ n, around x 9 = n := ⟨_, rfl⟩
      rw [hn] at hbd hsn
      obtain ⟨F, hF⟩ : ∃ F, idsL (l.take k) = F := ⟨_, rfl⟩
      rw [hF] at hown hml hsn
      have hfi := own_ints_b hown (by omega)
      have HN := hide hn
      have HX := hide hx
      have HFI := hide hfi
      clear hxx hn hx hF hfi
      have hmin : F.length ≤ 6 := by omega
      by_cases hin : F.contains (1 + n) = true
      · rw [if_pos hin] at hsn
        have HSN := hide hsn; clear hsn
        go_wp2_with fail
        refine (around_any x 9 _ HX.out (by omega)).mono ?_
        rintro e w' ⟨rfl, rfl⟩
        rw [HN.out]
        go_wp2_with fail
        refine (has_any F (1 + n) _ _ HFI.out).mono ?_
        rintro e w' ⟨rfl, rfl⟩
        rw [hin]
        go_wp2
        go_roundw
        case rel => exact ⟨k + 1, hlt, by omega, by go_num, by rw [HSN.out]; exact hown, hext⟩
        case measure => simp [intOf]; omega
      · have hin' : F.contains (1 + n) = false := by simpa using hin
        rw [if_neg hin] at hsn
        have HSN := hide hsn; clear hsn hin
        go_wp2_with fail
        refine (around_any x 9 _ HX.out (by omega)).mono ?_
        rintro e w' ⟨rfl, rfl⟩
        rw [HN.out]
        go_wp2_with fail
        refine (has_any F (1 + n) _ _ HFI.out).mono ?_
        rintro e w' ⟨rfl, rfl⟩
        rw [hin']
        go_wp2_with (at_builtin; refine wpList_append_own _ (by rfl) _ _ 28 (by rfl) w.heap.size 3 i0 (.int .i64 0) 1 8 Try.underlying28 hi hz0 hz1 hz2 rfl (by decide) _ F.length (F.flatMap encI) (by rfl) (hown.alloc _) ⟨wr.heap.size, 0, none⟩ 1 1 [.int .i64 (1 + n)] (by rfl) (by rfl) (cells_new wr [.int .i64 (1 + n)] 3) (by simp [Value.oneCell']) (by unfold maxLen; omega) (by omega) (by simp; omega) ?_; intro v2 w2 hown2 hgrow2 _)
        go_roundw
        case rel => exact ⟨k + 1, hlt, by omega, by go_num, by rw [HSN.out, List.length_append, List.flatMap_append]; exact hown2, hext.app hown hgrow2⟩
        case measure => simp [intOf]; omega
    · have hfin : idsL (l.take k) = someI l := by
        unfold someI
        by_cases h9 : k = 6
        · subst h9; rfl
        · have hkl : k = l.length := by omega
          rw [List.take_of_length_le (show l.length ≤ k by omega), List.take_of_length_le (show l.length ≤ 6 by omega)]
      rw [hfin] at hown
      go_wp2 <;> (go_ret; exact ⟨_, rfl, hown, hext⟩)
def ld12At (l : List Int) (i : Nat) : Int × Int := (1 + (i : Int), around (l.getD i 0) 100 % 10)
def ld12Up (l : List Int) (k : Nat) : List (Int × Int) := (List.range k).map (ld12At l)
def loads12 (l : List Int) : List (Int × Int) := ld12Up l (min l.length 9)
theorem ld12Up_succ (l : List Int) (k : Nat) : ld12Up l (k+1) = ld12Up l k ++ [ld12At l k] := by simp [ld12Up, List.range_succ]
theorem ld12Up_len (l : List Int) (k : Nat) : (ld12Up l k).length = k := by simp [ld12Up]
theorem loads12_len (l : List Int) : (loads12 l).length ≤ 9 := by rw [loads12, ld12Up_len]; omega
theorem loads12_bd (l : List Int) : ∀ x ∈ loads12 l, (1 ≤ x.1 ∧ x.1 ≤ 9) ∧ 0 ≤ x.2 ∧ x.2 ≤ 9 := by
  intro x hx
  simp only [loads12, ld12Up, List.mem_map, List.mem_range] at hx
  obtain ⟨i, hi, rfl⟩ := hx
  refine ⟨by simp [ld12At]; omega, ?_⟩
  unfold ld12At; simp only; omega
set_option maxRecDepth 100000 in
set_option maxHeartbeats 2000000 in
theorem loads12_any (l : List Int) (v : Value) (w : World) (hs : Ints w v l) (hli : ∀ x ∈ l, I64 x) :
    Calls Try.prog 13 #[v] w fun e w' => ∃ v', e = .returned v' ∧ w'.ownsRow w.heap.size 25 2 v' (loads12 l).length ((loads12 l).flatMap encP) ∧ Ext w w' := by
  obtain ⟨hl', a, cap, rfl⟩ := hs.shape
  obtain ⟨i0, hi, hz0, hz1, hz2⟩ := info_parts' Try.infoL
  have HC := hide hs; clear hs
  have HL := hide hli; clear hli
  go_enter Try.func13, Try.ntmps13
  go_wp2
  go_loopw [3, 4] (fun v i wr => ∃ k : Nat, k ≤ l.length ∧ k ≤ 9 ∧ i = .int .i64 k ∧ wr.ownsRow w.heap.size 25 2 v k ((ld12Up l k).flatMap encP) ∧ Ext w wr)
    (fun _ i _ => l.length - (intOf i).toNat)
  case atStart => exact ⟨0, Nat.zero_le _, by omega, rfl, by simpa [ld12Up] using World.ownsRow_nil _ _ _ _, Below.refl _ _⟩
  case round =>
    obtain ⟨k, hk, hk9, rfl, hown, hext⟩ := hrel
    by_cases hlt : k < l.length ∧ k < 9
    · obtain ⟨hlt, hlt9⟩ := hlt
      obtain ⟨b, off, rfl, hbb, hc⟩ := ints_at (HC.out.ext hext) k hlt
      have hx : I64 l[k] := HL.out _ (List.getElem_mem hlt)
      have hsz := hext.size
      have hbd := around_bd l[k] 100 (by omega)
      have hsn : ld12Up l (k+1) = ld12Up l k ++ [(1 + (k : Int), around l[k] 100 % 10)] := by rw [ld12Up_succ]; simp [ld12At, hlt]
      obtain ⟨x, hxx⟩ : ∃ x, l[k] = x := ⟨_, rfl⟩
      rw [hxx] at hc hx hbd hsn
      obtain ⟨n, hn⟩ : ∃ n, around x 100 = n := ⟨_, rfl⟩
      rw [hn] at hbd hsn
      have HN := hide hn
      have HX := hide hx
      have HSN := hide hsn
      clear hxx hn hx hsn
      have e1 : n.tmod 10 = n % 10 := Int.tmod_eq_emod_of_nonneg (by omega)
      go_wp2_with (first
        | (go_at_call 15; refine (around_any x 100 _ HX.out (by omega)).mono ?_; rintro e w' ⟨rfl, rfl⟩; rw [HN.out])
        | (at_builtin; refine wpList_append_own _ (by rfl) _ _ 22 (by rfl) w.heap.size 25 i0 _ 2 16 Try.underlying22 hi hz0 hz1 hz2 rfl (by decide) _ k _ (by rfl) (hown.alloc _) ⟨wr.heap.size, 0, none⟩ 1 1 [.int .i64 (1 + k), .int .i64 (n % 10)] (by rfl) (by rfl) (World.news_of_block (cs := #[.int .i64 (1 + k), .int .i64 (n % 10)]) (t := 25) (fr := (0, 0)) (heap_alloc_new wr _)) (by simp [Value.oneCell']) (by unfold maxLen; omega) (by omega) (by simp; omega) ?_; intro v2 w2 hown2 hgrow2 _))
      go_roundw
      case rel => exact ⟨k + 1, hlt, by omega, by go_num, by rw [HSN.out, List.flatMap_append]; exact hown2, hext.app hown hgrow2⟩
      case measure => simp [intOf]; omega
    · have hfin : k = min l.length 9 := by omega
      have hl2 : (loads12 l).length = k := by rw [loads12, ld12Up_len]; omega
      have hl3 : loads12 l = ld12Up l k := by rw [loads12, ← hfin]
      have H2 := hide hl2
      have H3 := hide hl3
      clear hl2 hl3 hfin
      go_wp2 <;> (go_ret; exact ⟨_, rfl, by rw [H2.out, H3.out]; exact hown, hext⟩)
end Go.Proofs.Ytoncfogihiapiaa
