/- without. -/
import Derived.Test.YtfmoiepjbkhjfaaRingL
namespace Go.Proofs.Ytfmoiepjbkhjfaa
open Go.ChangeShapes Go.WideShapes Go.ChangeAt Go.RowKit Go.Sort Go.Shelf
def wo (l : List Int) (n : Int) : List Int := l.filter (fun x => x != n)
theorem wo_succ (l : List Int) (n : Int) (k : Nat) (h : k < l.length) : wo (l.take (k+1)) n = if l[k] = n then wo (l.take k) n else wo (l.take k) n ++ [l[k]] := by
  unfold wo
  rw [take_snoc l k h, List.filter_append]
  by_cases e : l[k] = n
  · rw [if_pos e]; simp [e]
  · rw [if_neg e]; simp [e]
set_option maxRecDepth 100000 in
set_option maxHeartbeats 2000000 in
theorem without_any (l : List Int) (n : Int) (v : Value) (w : World) (hs : Ints w v l) (hl : l.length ≤ 1000) :
    Calls Try.prog 16 #[v, .int .i64 n] w fun e w' => ∃ v', e = .returned v' ∧ w'.ownsRow w.heap.size 3 1 v' (wo l n).length ((wo l n).flatMap encI) ∧ Ext w w' := by
  obtain ⟨_, a, cap, rfl⟩ := hs.shape
  obtain ⟨i0, hi, hz0, hz1, hz2⟩ := info_parts' Try.infoI
  have hl' : (l.length : Int) ≤ 1000 := by omega
  have HC := hide hs; clear hs
  go_enter Try.func16, Try.ntmps16
  go_wp2
  go_loopw [5, 6] (fun v i wr => ∃ k : Nat, k ≤ l.length ∧ i = .int .i64 k ∧ wr.ownsRow w.heap.size 3 1 v (wo (l.take k) n).length ((wo (l.take k) n).flatMap encI) ∧ Ext w wr)
    (fun _ i _ => l.length - (intOf i).toNat)
  case atStart => exact ⟨0, Nat.zero_le _, rfl, by simpa [wo] using World.ownsRow_nil _ _ _ _, Below.refl _ _⟩
  case round =>
    obtain ⟨k, hk, rfl, hown, hext⟩ := hrel
    by_cases hlt : k < l.length
    · obtain ⟨b, off, rfl, hbb, hc⟩ := ints_at (HC.out.ext hext) k hlt
      have hsz := hext.size
      have hws := wo_succ l n k hlt
      have hwl : (wo (l.take k) n).length ≤ 1000 := Nat.le_trans (List.length_filter_le _ _) (by rw [List.length_take]; omega)
      obtain ⟨x, hx⟩ : ∃ x, l[k] = x := ⟨_, rfl⟩
      rw [hx] at hc hws
      by_cases he : x = n
      · rw [if_pos he] at hws
        subst he
        have HW := hide hws
        clear hws
        go_wp2
        go_roundw
        case rel => exact ⟨k + 1, hlt, by go_num, by rw [HW.out]; exact hown, hext⟩
        case measure => simp [intOf]; omega
      · rw [if_neg he] at hws
        have HW := hide hws
        have hne : (x == n) = false := by simp [he]
        clear hws he
        obtain ⟨F, hF⟩ : ∃ F, wo (l.take k) n = F := ⟨_, rfl⟩
        rw [hF] at hown hwl HW
        clear hF
        go_wp2_with (at_builtin; refine wpList_append_own _ (by rfl) _ _ 22 (by rfl) w.heap.size 3 i0 (.int .i64 0) 1 8 Try.underlying22 hi hz0 hz1 hz2 rfl (by decide) _ F.length (F.flatMap encI) (by rfl) (hown.alloc _) ⟨wr.heap.size, 0, none⟩ 1 1 [.int .i64 x] (by rfl) (by rfl) (cells_new wr [.int .i64 x] 3) (by simp [Value.oneCell']) (by unfold maxLen; omega) (by omega) (by simp; omega) ?_; intro v2 w2 hown2 hgrow2 _)
        go_wp2
        go_roundw
        case rel => exact ⟨k + 1, hlt, by go_num, by rw [HW.out, List.length_append, List.flatMap_append]; exact hown2, hext.app hown hgrow2⟩
        case measure => simp [intOf]; omega
    · obtain rfl : k = l.length := by omega
      go_wp2
      go_ret
      rw [List.take_length] at hown
      exact ⟨_, rfl, hown, hext⟩
end Go.Proofs.Ytfmoiepjbkhjfaa
