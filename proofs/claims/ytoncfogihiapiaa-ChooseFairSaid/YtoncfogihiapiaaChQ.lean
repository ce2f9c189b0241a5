/- Pick of none, Pick by ring of any list; the plain laws of ChooseStays. -/
import Derived.Test.YtoncfogihiapiaaChN
import Derived.Test.YtoncfogihiapiaaRingV
namespace Go.Proofs.Ytoncfogihiapiaa
open Go.ChangeShapes Go.WideShapes Go.ChangeAt Go.RowKit Go.Maps Go.Shelf
theorem pick0g_any (w : World) (kind : Int) (a : Option Addr) (cap : Nat) (n2 cap2 : Nat) (a2 : Option Addr) (Br Bd : Nat) (key : Int) :
    Calls Try.prog 16 #[.int .i64 kind, .pointer (some ⟨Br, 0, none⟩), .slice a 0 cap, .int .u64 key, .slice a2 n2 cap2, .pointer (some ⟨Bd, 0, none⟩)] w fun e w' => e = .returned (.tuple #[.int .i64 0, .bool false]) ∧ Ext w w' := by
  go_enter Try.func16, Try.ntmps16
  go_wp2_with fail
  go_ret2
  refine ⟨rfl, ?_⟩
  refine Below.alloc (Below.alloc (Below.alloc (Below.alloc (Below.alloc (Below.refl _ w) (Nat.le_refl _) _) ?_ _) ?_ _) ?_ _) ?_ _ <;> simp <;> omega
def headI (l : List Int) : Option Int := l.head?
def pickR (row S : List Int) : Option Int := (cnt row S).head?
theorem cnt_nil (row : List Int) : cnt row [] = [] := by unfold cnt; simp
theorem pickR_nil (row : List Int) : pickR row [] = none := by unfold pickR; rw [cnt_nil]; rfl
theorem pick2g_any (w : World) (S : List Int) (a : Option Addr) (cap : Nat) (a2 : Option Addr) (n2 cap2 : Nat) (Br Bd : Nat) (key : Int) (p0 : Nat) (I : List Int)
    (hr : RingAt w (.pointer (some ⟨Br, 0, none⟩)) (ends I).length (pointsOf p0 I)) (hp0 : 0 < p0) (hI : ∀ x ∈ I, I64 x) (hs : Ints w (.slice a S.length cap) S) :
    Calls Try.prog 16 #[.int .i64 2, .pointer (some ⟨Br, 0, none⟩), .slice a S.length cap, .int .u64 key, .slice a2 n2 cap2, .pointer (some ⟨Bd, 0, none⟩)] w fun e w' => e = .returned (.tuple #[.int .i64 ((pickR (rowOf key (pointsOf p0 I)) S).getD 0), .bool (pickR (rowOf key (pointsOf p0 I)) S).isSome]) ∧ Ext w w' := by
  cases S with
  | nil =>
    rw [pickR_nil]
    exact pick0g_any w 2 a cap n2 cap2 a2 Br Bd key
  | cons x S => exact pick2_any w (x :: S) a cap a2 n2 cap2 Br Bd key p0 I (by simp) hr hp0 hI hs
theorem pickR_mem {row S : List Int} {x : Int} (h : pickR row S = some x) : x ∈ S ∧ x ∈ row := by
  unfold pickR cnt at h
  have := List.mem_of_head? h
  rw [List.mem_filter] at this
  exact ⟨by simpa using this.2, this.1⟩
theorem pickR_none {row S : List Int} : pickR row S = none ↔ ∀ x ∈ row, x ∉ S := by
  unfold pickR cnt
  rw [List.head?_eq_none_iff, List.filter_eq_nil_iff]
  simp
/-- a list without its k-th -/
def lessI (S : List Int) (k : Nat) : List Int := S.take k ++ S.drop (k+1)
theorem lessI_mem (S : List Int) (k : Nat) (hk : k < S.length) (hn : S.Nodup) (x : Int) : x ∈ lessI S k ↔ x ∈ S ∧ x ≠ S[k] := by
  have e : S = S.take k ++ S[k] :: S.drop (k+1) := by rw [List.getElem_cons_drop]; exact (List.take_append_drop k S).symm
  have hn' := hn
  rw [e, List.nodup_append] at hn'
  obtain ⟨_, h2, h3⟩ := hn'
  rw [List.nodup_cons] at h2
  unfold lessI
  constructor
  · intro h
    rcases List.mem_append.1 h with h | h
    · exact ⟨List.mem_of_mem_take h, h3 x h S[k] (List.mem_cons_self ..)⟩
    · exact ⟨List.mem_of_mem_drop h, fun e => h2.1 (e ▸ h)⟩
  · rintro ⟨h, hne⟩
    rw [e] at h
    rcases List.mem_append.1 h with h | h
    · exact List.mem_append_left _ h
    · rcases List.mem_cons.1 h with h | h
      · exact absurd h hne
      · exact List.mem_append_right _ h
theorem cnt_less (row S : List Int) (k : Nat) (hk : k < S.length) (hn : S.Nodup) : cnt row (lessI S k) = (cnt row S).filter (fun x => x != S[k]) := by
  unfold cnt
  rw [List.filter_filter]
  refine List.filter_congr (fun x _ => ?_)
  have := lessI_mem S k hk hn x
  rw [Bool.eq_iff_iff]
  simp only [List.contains_iff_mem, Bool.and_eq_true, bne_iff_ne, ne_eq]
  rw [this]
  exact And.comm
theorem stays_some (row S : List Int) (k : Nat) (hk : k < S.length) (hn : S.Nodup) (a : Int) (h : pickR row S = some a) (hne : S[k] ≠ a) : pickR row (lessI S k) = some a := by
  unfold pickR at *
  rw [cnt_less row S k hk hn]
  obtain ⟨l, hl⟩ := List.head?_eq_some_iff.1 h
  rw [hl, List.filter_cons_of_pos (by simpa using fun e => hne e.symm)]
  rfl
theorem stays_not (row S : List Int) (k : Nat) (hk : k < S.length) (hn : S.Nodup) (c : Int) (h : pickR row (lessI S k) = some c) : c ≠ S[k] :=
  ((lessI_mem S k hk hn c).1 (pickR_mem h).1).2
theorem lessI_len (S : List Int) (k : Nat) (hk : k < S.length) : (lessI S k).length = S.length - 1 := by
  unfold lessI; rw [List.length_append, List.length_take, List.length_drop]; omega
theorem madeP_nat (l : List Int) : ∃ p : Nat, madeP l = (p : Int) ∧ 1 ≤ p ∧ p ≤ 6 := by
  have := madeP_bd l
  exact ⟨(madeP l).toNat, by omega, by omega, by omega⟩
end Go.Proofs.Ytoncfogihiapiaa
