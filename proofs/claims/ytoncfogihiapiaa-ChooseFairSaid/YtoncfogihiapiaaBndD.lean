
/- Has, and the references of layer 10: Of, IDs, Loads. -/
import Derived.Deep.RegionHeld3
import Derived.Deep.RegionLaw
import Derived.Deep.AppendLies
import Derived.Test.YtoncfogihiapiaaBndA
import Derived.Test.YtoncfogihiapiaaBndC
namespace Go.Proofs.Ytoncfogihiapiaa
open Go.ChangeShapes Go.WideShapes Go.ChangeAt Go.RowKit
theorem Try.infoL : (Try.prog.info? 25).map (fun i => (i.zero, i.size, i.bytes)) = some (some (.agg #[.int .i64 0, .int .i64 0]), 2, 16) := by kernel_rfl
theorem encI_len' (x : Int) : (encI x).length = 1 := rfl
theorem own_ints_b {w : World} {base : Nat} {v : Value} {n : Nat} {zs : List Int} (h : w.ownsRow base 3 1 v n (zs.flatMap encI)) (hl : zs.length ≤ 9223372036854775807) : Ints w v zs := by
  have hn : zs.length = n := by have := h.1; rw [length_flatMap_enc encI_len'] at this; omega
  subst hn
  exact Sl.of_own (enc := encI) (size := 1) (fun _ => rfl) h hl
theorem own_base_b {X : World} {base base' : Nat} (hb : base' ≤ base) {e : TypeId} {s n : Nat} {v : Value} {xs : List Value} (h : X.ownsRow base e s v n xs) : X.ownsRow base' e s v n xs := by
  refine ⟨h.1, ?_⟩
  rcases h.2 with hn | ⟨g, cap, cur, rfl, hbg, rest⟩
  · exact .inl hn
  · exact .inr ⟨g, cap, cur, rfl, by omega, rest⟩
theorem loadF_take (L : List (Int × Int)) (k : Nat) (n c : Int) (h : loadF (L.take k) n = some c) : loadF L n = some c := by
  have : loadF (L.take k ++ L.drop k) n = some c := by
    unfold loadF at h ⊢
    rw [List.find?_append]
    cases hf : List.find? (fun y => y.1 == n) (L.take k) with
    | none => rw [hf] at h; cases h
    | some q => rw [hf] at h; exact h
  rwa [List.take_append_drop] at this
theorem contains_succ (l : List Int) (n : Int) (k : Nat) (h : k < l.length) : (l.take (k+1)).contains n = ((l.take k).contains n || l[k] == n) := by
  rw [Bool.eq_iff_iff]
  simp only [List.contains_iff_mem, take_snoc l k h, List.mem_append, List.mem_singleton, Bool.or_eq_true, beq_iff_eq]
  exact or_congr Iff.rfl eq_comm
set_option maxRecDepth 100000 in
set_option maxHeartbeats 2000000 in
theorem has_any (l : List Int) (n : Int) (v : Value) (w : World) (hs : Ints w v l) :
    Calls Try.prog 18 #[v, .int .i64 n] w fun e w' => e = .returned (.bool (l.contains n)) ∧ w = w' := by
  obtain ⟨hl, a, cap, rfl⟩ := hs.shape
  have HC := hide hs; clear hs
  go_enter Try.func18, Try.ntmps18
  go_wp2
  go_loopw [5] (fun i wr => ∃ k : Nat, k ≤ l.length ∧ i = .int .i64 k ∧ (l.take k).contains n = false ∧ wr = w)
    (fun i _ => l.length - (intOf i).toNat)
  case atStart => exact ⟨0, Nat.zero_le _, rfl, by simp, rfl⟩
  case round =>
    obtain ⟨k, hk, rfl, hno, rfl⟩ := hrel
    by_cases hlt : k < l.length
    · obtain ⟨b, off, rfl, hbb, hc⟩ := ints_at HC.out k hlt
      have hcs := contains_succ l n k hlt
      have hm : l[k] ∈ l := List.getElem_mem hlt
      obtain ⟨x, hx⟩ : ∃ x, l[k] = x := ⟨_, rfl⟩
      rw [hx] at hc hcs hm
      rw [hno, Bool.false_or] at hcs
      clear hx hno
      by_cases he : x = n
      · subst he
        have hin : l.contains x = true := by simpa using hm
        have HIN := hide hin
        clear hin hm hcs
        go_wp2
        go_ret
        exact ⟨ret_bool HIN.out.symm, rfl⟩
      · have hne : (x == n) = false := by simp [he]
        rw [hne] at hcs
        have HCS := hide hcs
        clear hcs he hm
        go_wp2
        go_roundw
        case rel => exact ⟨k + 1, hlt, by go_num, HCS.out, trivial⟩
        case measure => simp [intOf]; omega
    · obtain rfl : k = l.length := by omega
      rw [List.take_length] at hno
      have HN := hide hno; clear hno
      go_wp2
      go_ret
      exact ⟨ret_bool HN.out.symm, rfl⟩
/-- the references' IDs -/
def idF (acc : List Int) (x : Int) : List Int := if acc.contains (1 + around x 9) then acc else acc ++ [1 + around x 9]
def idsL (l : List Int) : List Int := l.foldl idF []
def idsI (l : List Int) : List Int := idsL (l.take 12)
theorem idsL_snoc (l : List Int) (x : Int) : idsL (l ++ [x]) = idF (idsL l) x := by simp [idsL, List.foldl_append]
theorem idsL_inv (l : List Int) : (idsL l).length ≤ l.length ∧ (idsL l).Nodup ∧ ∀ x ∈ idsL l, 1 ≤ x ∧ x ≤ 9 := by
  suffices h : ∀ n (l : List Int), l.length = n → (idsL l).length ≤ l.length ∧ (idsL l).Nodup ∧ ∀ x ∈ idsL l, 1 ≤ x ∧ x ≤ 9 from h _ l rfl
  intro n
  induction n with
  | zero =>
    intro l hl
    obtain rfl := List.eq_nil_of_length_eq_zero hl
    simp [idsL]
  | succ n ih =>
    intro l hl
    obtain ⟨l', x, rfl⟩ : ∃ l' x, l = l' ++ [x] := ⟨l.dropLast, l.getLast (by intro e; rw [e] at hl; simp at hl), (List.dropLast_concat_getLast _).symm⟩
    have := ih l' (by simpa using hl)
    rw [idsL_snoc]
    unfold idF
    have hb := around_bd x 9 (by omega)
    by_cases hc : (idsL l').contains (1 + around x 9) = true
    · rw [if_pos hc]; exact ⟨by simp; omega, this.2⟩
    · rw [if_neg hc]
      have hc' : (1 + around x 9) ∉ idsL l' := by simpa using hc
      refine ⟨by simp; omega, ?_, fun y hy => ?_⟩
      · rw [List.nodup_append]
        exact ⟨this.2.1, by simp, fun a ha b hb' => by simp at hb'; subst hb'; exact fun e => hc' (e ▸ ha)⟩
      · rcases List.mem_append.1 hy with h | h
        · exact this.2.2 y h
        · simp at h; subst h; omega
theorem idsI_bd (l : List Int) : ∀ x ∈ idsI l, 1 ≤ x ∧ x ≤ 9 := (idsL_inv _).2.2
theorem idsI_nodup (l : List Int) : (idsI l).Nodup := (idsL_inv _).2.1
theorem idsI_len (l : List Int) : (idsI l).length ≤ l.length ∧ (idsI l).length ≤ 12 := by
  have h := (idsL_inv (l.take 12)).1
  rw [List.length_take] at h
  unfold idsI; omega
end Go.Proofs.Ytoncfogihiapiaa
