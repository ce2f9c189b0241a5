/- Has, and the references of layer 10: Of, IDs, Loads. -/
import Derived.Deep.RegionHeld3
import Derived.Deep.RegionLaw
import Derived.Deep.AppendLies
import Derived.Test.YtfmoiepjbkhjfaaBndA
import Derived.Test.YtfmoiepjbkhjfaaBndC
namespace Go.Proofs.Ytfmoiepjbkhjfaa
open Go.ChangeShapes Go.WideShapes Go.ChangeAt Go.RowKit
theorem Try.infoL : (Try.prog.info? 56).map (fun i => (i.zero, i.size, i.bytes)) = some (some (.agg #[.int .i64 0, .int .i64 0]), 2, 16) := by kernel_rfl
theorem encI_len' (x : Int) : (encI x).length = 1 := rfl
theorem own_ints_b {w : World} {base : Nat} {v : Value} {n : Nat} {zs : List Int} (h : w.ownsRow base 3 1 v n (zs.flatMap encI)) (hl : zs.length ≤ 9223372036854775807) : Ints w v zs := by
  have hn : zs.length = n := by have := h.1; rw [length_flatMap_enc encI_len'] at this; omega
  subst hn
  exact Sl.of_own (enc := encI) (size := 1) (fun _ => rfl) h hl
theorem own_base_b {X : World} {base base' : Nat} (hb : base' ≤ base) {e : TypeId} {s n : Nat} {v : Value} {xs : List Value} (h : X.ownsRow base e s v n xs) : X.ownsRow base' e s v n xs := by
  refine ⟨h.1, ?_⟩
  rcases h.2 with hn | ⟨g, cap, cur, rfl, hbg, rest⟩
  · exact .inl hn
  · exact .inr ⟨g, cap, cur, rfl, by omega, rest⟩
theorem loadF_take (L : List (Int × Int)) (k : Nat) (n c : Int) (h : loadF (L.take k) n = some c) : loadF L n = some c := by
  have : loadF (L.take k ++ L.drop k) n = some c := by
    unfold loadF at h ⊢
    rw [List.find?_append]
    cases hf : List.find? (fun y => y.1 == n) (L.take k) with
    | none => rw [hf] at h; cases h
    | some q => rw [hf] at h; exact h
  rwa [List.take_append_drop] at this
theorem contains_succ (l : List Int) (n : Int) (k : Nat) (h : k < l.length) : (l.take (k+1)).contains n = ((l.take k).contains n || l[k] == n) := by
  rw [Bool.eq_iff_iff]
  simp only [List.contains_iff_mem, take_snoc l k h, List.mem_append, List.mem_singleton, Bool.or_eq_true, beq_iff_eq]
  exact or_congr Iff.rfl eq_comm
set_option maxRecDepth 100000 in
set_option maxHeartbeats 2000000 in
theorem has_any (l : List Int) (n : Int) (v : Value) (w : World) (hs : Ints w v l) :
    Calls Try.prog 32 #[v, .int .i64 n] w fun e w' => e = .returned (.bool (l.contains n)) ∧ w = w' := by
  obtain ⟨hl, a, cap, rfl⟩ := hs.shape
  have HC := hide hs; clear hs
  go_enter Try.func32, Try.ntmps32
  go_wp2
  go_loopw [5] (fun i wr => ∃ k : Nat, k ≤ l.length ∧ i = .int .i64 k ∧ (l.take k).contains n = false ∧ wr = w)
    (fun i _ => l.length - (intOf i).toNat)
  case atStart => exact ⟨0, Nat.zero_le _, rfl, by simp, rfl⟩
  case round =>
    obtain ⟨k, hk, rfl, hno, rfl⟩ := hrel
    by_cases hlt : k < l.length
    · obtain ⟨b, off, rfl, hbb, hc⟩ := ints_at HC.out k hlt
      have hcs := contains_succ l n k hlt
      have hm : l[k] ∈ l := List.getElem_mem hlt
      obtain ⟨x, hx⟩ : ∃ x, l[k] = x := ⟨_, rfl⟩
      rw [hx] at hc hcs hm
      rw [hno, Bool.false_or] at hcs
      clear hx hno
      by_cases he : x = n
      · subst he
        have hin : l.contains x = true := by simpa using hm
        have HIN := hide hin
        clear hin hm hcs
        go_wp2
        go_ret
        exact ⟨ret_bool HIN.out.symm, rfl⟩
      · have hne : (x == n) = false := by simp [he]
        rw [hne] at hcs
        have HCS := hide hcs
        clear hcs he hm
        go_wp2
        go_roundw
        case rel => exact ⟨k + 1, hlt, by go_num, HCS.out, trivial⟩
        case measure => simp [intOf]; omega
    · obtain rfl : k = l.length := by omega
      rw [List.take_length] at hno
      have HN := hide hno; clear hno
      go_wp2
      go_ret
      exact ⟨ret_bool HN.out.symm, rfl⟩
set_option maxRecDepth 100000 in
set_option maxHeartbeats 2000000 in
theorem of10_any (L : List (Int × Int)) (n : Int) (v : Value) (w : World) (hs : Parts w v L) :
    Calls Try.prog 33 #[v, .int .i64 n] w fun e w' => e = .returned (.int .i64 (loadI L n)) ∧ w = w' := by
  obtain ⟨hl, a, cap, rfl⟩ := hs.shape
  have HC := hide hs; clear hs
  go_enter Try.func33, Try.ntmps33
  go_wp2
  go_loopw [5] (fun i wr => ∃ k : Nat, k ≤ L.length ∧ i = .int .i64 k ∧ loadF (L.take k) n = none ∧ wr = w)
    (fun i _ => L.length - (intOf i).toNat)
  case atStart => exact ⟨0, Nat.zero_le _, rfl, by simp [loadF], rfl⟩
  case round =>
    obtain ⟨k, hk, rfl, hno, rfl⟩ := hrel
    by_cases hlt : k < L.length
    · obtain ⟨b, off, rfl, hbb, hc1, hc2⟩ := parts_at HC.out k hlt
      have hcs := loadF_succ L k hlt n
      rw [hno] at hcs
      have hat : loadF (L.take (k+1)) n = some L[k].2 → loadI L n = L[k].2 := fun h => by
        unfold loadI
        have e : loadF L n = some L[k].2 := loadF_take L (k+1) n _ h
        rw [e]; rfl
      obtain ⟨⟨x, c⟩, hx⟩ : ∃ x, L[k] = x := ⟨_, rfl⟩
      rw [hx] at hc1 hc2 hcs hat
      clear hx hno
      by_cases he : x = n
      · subst he
        have hin : loadI L x = c := hat (by rw [hcs]; exact if_pos rfl)
        have HIN := hide hin
        clear hin hcs hat
        go_wp2
        go_ret
        exact ⟨ret_int HIN.out.symm, rfl⟩
      · have hne : (x == n) = false := by simp [he]
        have hcs2 : loadF (L.take (k+1)) n = none := by rw [hcs]; exact if_neg (fun e => he e.symm)
        have HCS := hide hcs2
        clear hcs he hcs2 hat
        go_wp2
        go_roundw
        case rel => exact ⟨k + 1, hlt, by go_num, HCS.out, trivial⟩
        case measure => simp [intOf]; omega
    · obtain rfl : k = L.length := by omega
      rw [List.take_length] at hno
      have hz : loadI L n = 0 := by unfold loadI; rw [hno]; rfl
      have HN := hide hz; clear hno hz
      go_wp2
      go_ret
      exact ⟨ret_int HN.out.symm, rfl⟩
/-- the references' IDs -/
def idF (acc : List Int) (x : Int) : List Int := if acc.contains (1 + around x 9) then acc else acc ++ [1 + around x 9]
def idsL (l : List Int) : List Int := l.foldl idF []
def idsI (l : List Int) : List Int := idsL (l.take 12)
theorem idsL_snoc (l : List Int) (x : Int) : idsL (l ++ [x]) = idF (idsL l) x := by simp [idsL, List.foldl_append]
theorem idsL_inv (l : List Int) : (idsL l).length ≤ l.length ∧ (idsL l).Nodup ∧ ∀ x ∈ idsL l, 1 ≤ x ∧ x ≤ 9 := by
  suffices h : ∀ n (l : List Int), l.length = n → (idsL l).length ≤ l.length ∧ (idsL l).Nodup ∧ ∀ x ∈ idsL l, 1 ≤ x ∧ x ≤ 9 from h _ l rfl
  intro n
  induction n with
  | zero =>
    intro l hl
    obtain rfl := List.eq_nil_of_length_eq_zero hl
    simp [idsL]
  | succ n ih =>
    intro l hl
    obtain ⟨l', x, rfl⟩ : ∃ l' x, l = l' ++ [x] := ⟨l.dropLast, l.getLast (by intro e; rw [e] at hl; simp at hl), (List.dropLast_concat_getLast _).symm⟩
    have := ih l' (by simpa using hl)
    rw [idsL_snoc]
    unfold idF
    have hb := around_bd x 9 (by omega)
    by_cases hc : (idsL l').contains (1 + around x 9) = true
    · rw [if_pos hc]; exact ⟨by simp; omega, this.2⟩
    · rw [if_neg hc]
      have hc' : (1 + around x 9) ∉ idsL l' := by simpa using hc
      refine ⟨by simp; omega, ?_, fun y hy => ?_⟩
      · rw [List.nodup_append]
        exact ⟨this.2.1, by simp, fun a ha b hb' => by simp at hb'; subst hb'; exact fun e => hc' (e ▸ ha)⟩
      · rcases List.mem_append.1 hy with h | h
        · exact this.2.2 y h
        · simp at h; subst h; omega
theorem idsI_bd (l : List Int) : ∀ x ∈ idsI l, 1 ≤ x ∧ x ≤ 9 := (idsL_inv _).2.2
theorem idsI_nodup (l : List Int) : (idsI l).Nodup := (idsL_inv _).2.1
theorem idsI_len (l : List Int) : (idsI l).length ≤ l.length ∧ (idsI l).length ≤ 12 := by
  have h := (idsL_inv (l.take 12)).1
  rw [List.length_take] at h
  unfold idsI; omega
set_option maxRecDepth 100000 in
set_option maxHeartbeats 2000000 in
theorem ids_any (l : List Int) (v : Value) (w : World) (hs : Ints w v l) (hli : ∀ x ∈ l, I64 x) :
    Calls Try.prog 28 #[v] w fun e w' => ∃ v', e = .returned v' ∧ w'.ownsRow w.heap.size 3 1 v' (idsI l).length ((idsI l).flatMap encI) ∧ Ext w w' := by
  obtain ⟨hl', a, cap, rfl⟩ := hs.shape
  obtain ⟨i0, hi, hz0, hz1, hz2⟩ := info_parts' Try.infoI
  have HC := hide hs; clear hs
  have HL := hide hli; clear hli
  go_enter Try.func28, Try.ntmps28
  go_wp2
  go_loopw [3, 4] (fun v i wr => ∃ k : Nat, k ≤ l.length ∧ k ≤ 12 ∧ i = .int .i64 k ∧ wr.ownsRow w.heap.size 3 1 v (idsL (l.take k)).length ((idsL (l.take k)).flatMap encI) ∧ Ext w wr)
    (fun _ i _ => l.length - (intOf i).toNat)
  case atStart => exact ⟨0, Nat.zero_le _, by omega, rfl, by simpa [idsL] using World.ownsRow_nil _ _ _ _, Below.refl _ _⟩
  case round =>
    obtain ⟨k, hk, hk9, rfl, hown, hext⟩ := hrel
    by_cases hlt : k < l.length ∧ k < 12
    · obtain ⟨hlt, hlt9⟩ := hlt
      obtain ⟨b, off, rfl, hbb, hc⟩ := ints_at (HC.out.ext hext) k hlt
      have hx : I64 l[k] := HL.out _ (List.getElem_mem hlt)
      have hsz := hext.size
      have hml := (idsL_inv (l.take k)).1
      rw [List.length_take] at hml
      have hbd := around_bd l[k] 9 (by omega)
      have hsn : idsL (l.take (k+1)) = idF (idsL (l.take k)) l[k] := by rw [take_snoc l k hlt, idsL_snoc]
      unfold idF at hsn
      obtain ⟨x, hxx⟩ : ∃ x, l[k] = x := ⟨_, rfl⟩
      rw [hxx] at hc hx hbd hsn
      obtain ⟨n, hn⟩ : ∃ n, around x 9 = n := ⟨_, rfl⟩
      rw [hn] at hbd hsn
      obtain ⟨F, hF⟩ : ∃ F, idsL (l.take k) = F := ⟨_, rfl⟩
      rw [hF] at hown hml hsn
      have hfi := own_ints_b hown (by omega)
      have HN := hide hn
      have HX := hide hx
      have HFI := hide hfi
      clear hxx hn hx hF hfi
      have hmin : F.length ≤ 12 := by omega
      by_cases hin : F.contains (1 + n) = true
      · rw [if_pos hin] at hsn
        have HSN := hide hsn; clear hsn
        go_wp2_with fail
        refine (around_any x 9 _ HX.out (by omega)).mono ?_
        rintro e w' ⟨rfl, rfl⟩
        rw [HN.out]
        go_wp2_with fail
        refine (has_any F (1 + n) _ _ HFI.out).mono ?_
        rintro e w' ⟨rfl, rfl⟩
        rw [hin]
        go_wp2
        go_roundw
        case rel => exact ⟨k + 1, hlt, by omega, by go_num, by rw [HSN.out]; exact hown, hext⟩
        case measure => simp [intOf]; omega
      · have hin' : F.contains (1 + n) = false := by simpa using hin
        rw [if_neg hin] at hsn
        have HSN := hide hsn; clear hsn hin
        go_wp2_with fail
        refine (around_any x 9 _ HX.out (by omega)).mono ?_
        rintro e w' ⟨rfl, rfl⟩
        rw [HN.out]
        go_wp2_with fail
        refine (has_any F (1 + n) _ _ HFI.out).mono ?_
        rintro e w' ⟨rfl, rfl⟩
        rw [hin']
        go_wp2_with (at_builtin; refine wpList_append_own _ (by rfl) _ _ 22 (by rfl) w.heap.size 3 i0 (.int .i64 0) 1 8 Try.underlying22 hi hz0 hz1 hz2 rfl (by decide) _ F.length (F.flatMap encI) (by rfl) (hown.alloc _) ⟨wr.heap.size, 0, none⟩ 1 1 [.int .i64 (1 + n)] (by rfl) (by rfl) (cells_new wr [.int .i64 (1 + n)] 3) (by simp [Value.oneCell']) (by unfold maxLen; omega) (by omega) (by simp; omega) ?_; intro v2 w2 hown2 hgrow2 _)
        go_roundw
        case rel => exact ⟨k + 1, hlt, by omega, by go_num, by rw [HSN.out, List.length_append, List.flatMap_append]; exact hown2, hext.app hown hgrow2⟩
        case measure => simp [intOf]; omega
    · have hfin : idsL (l.take k) = idsI l := by
        unfold idsI
        by_cases h9 : k = 12
        · subst h9; rfl
        · have hkl : k = l.length := by omega
          rw [List.take_of_length_le (show l.length ≤ k by omega), List.take_of_length_le (show l.length ≤ 12 by omega)]
      rw [hfin] at hown
      go_wp2 <;> (go_ret; exact ⟨_, rfl, hown, hext⟩)
end Go.Proofs.Ytfmoiepjbkhjfaa
