
/- Made. -/
import Derived.Test.YtoncfogihiapiaaRingT
namespace Go.Proofs.Ytoncfogihiapiaa
open Go.ChangeShapes Go.WideShapes Go.ChangeAt Go.RowKit Go.Sort Go.Shelf
def mf (x : Int) : Int := 1 + around x 1000 % 9
def madeI (l : List Int) : List Int := (l.take 9).tail.map mf
def madeP (l : List Int) : Int := match l with | [] => 1 | x :: _ => 1 + around x 1000 % 6
def mI (l : List Int) (k : Nat) : List Int := (l.take k).tail.map mf
theorem mI_succ (l : List Int) (k : Nat) (h : k < l.length) (h0 : 0 < k) : mI l (k+1) = mI l k ++ [mf l[k]] := by
  unfold mI
  have hne : l.take k ≠ [] := by
    intro e
    have h1 : (l.take k).length = 0 := by rw [e]; rfl
    rw [List.length_take] at h1; omega
  rw [take_snoc l k h, List.tail_append_of_ne_nil hne, List.map_append]
  rfl
theorem mI_one (l : List Int) : mI l 1 = [] := by unfold mI; cases l <;> simp
theorem mI_len (l : List Int) (k : Nat) : (mI l k).length ≤ k - 1 := by unfold mI; simp [List.length_take]; omega
theorem mf_bd (x : Int) : 1 ≤ mf x ∧ mf x ≤ 9 := by unfold mf; omega
theorem madeI_bd (l : List Int) : ∀ x ∈ madeI l, 1 ≤ x ∧ x ≤ 9 := by
  intro x hx
  simp only [madeI, List.mem_map] at hx
  obtain ⟨y, _, rfl⟩ := hx
  exact mf_bd y
theorem madeI_len (l : List Int) : (madeI l).length ≤ 8 := by unfold madeI; simp [List.length_take]; omega
theorem madeP_bd (l : List Int) : 1 ≤ madeP l ∧ madeP l ≤ 6 := by unfold madeP; cases l <;> simp <;> omega
def mP (l : List Int) (k : Nat) : Int := if k = 0 then 1 else madeP l
set_option maxRecDepth 100000 in
set_option maxHeartbeats 2000000 in
theorem made_any (l : List Int) (v : Value) (w : World) (hs : Ints w v l) (hli : ∀ x ∈ l, I64 x) :
    Calls Try.prog 19 #[v] w fun e w' => ∃ v', e = .returned (.tuple #[v', .int .i64 (madeP l)]) ∧ w'.ownsRow w.heap.size 3 1 v' (madeI l).length ((madeI l).flatMap encI) ∧ Ext w w' := by
  obtain ⟨hl', a, cap, rfl⟩ := hs.shape
  obtain ⟨i0, hi, hz0, hz1, hz2⟩ := info_parts' Try.infoI
  have HC := hide hs; clear hs
  have HL := hide hli; clear hli
  go_enter Try.func19, Try.ntmps19
  go_wp2
  go_loopw [4, 5, 6] (fun v p i wr => ∃ k : Nat, k ≤ l.length ∧ k ≤ 9 ∧ i = .int .i64 k ∧ p = .int .i64 (mP l k) ∧ wr.ownsRow w.heap.size 3 1 v (mI l k).length ((mI l k).flatMap encI) ∧ Ext w wr)
    (fun _ _ i _ => l.length - (intOf i).toNat)
  case atStart => exact ⟨0, Nat.zero_le _, by omega, rfl, by simp [mP], by simpa [mI] using World.ownsRow_nil _ _ _ _, Below.refl _ _⟩
  case round =>
    obtain ⟨k, hk, hk9, rfl, rfl, hown, hext⟩ := hrel
    by_cases hlt : k < l.length ∧ k < 9
    · obtain ⟨hlt, hlt9⟩ := hlt
      obtain ⟨b, off, rfl, hbb, hc⟩ := ints_at (HC.out.ext hext) k hlt
      have hx : I64 l[k] := HL.out _ (List.getElem_mem hlt)
      have hsz := hext.size
      have hml := mI_len l k
      have hbd := around_bd l[k] 1000 (by omega)
      have hmf : mf l[k] = 1 + around l[k] 1000 % 9 := rfl
      have hmp : k = 0 → mP l (k+1) = 1 + around l[k] 1000 % 6 := by
        intro h0; subst h0
        cases l with
        | nil => simp at hlt
        | cons y ys => rfl
      have hmp2 : k ≠ 0 → mP l (k+1) = mP l k := by intro h0; simp [mP, h0]
      have hms : 0 < k → mI l (k+1) = mI l k ++ [mf l[k]] := fun h0 => mI_succ l k hlt h0
      rw [hmf] at hms
      obtain ⟨x, hxx⟩ : ∃ x, l[k] = x := ⟨_, rfl⟩
      rw [hxx] at hc hx hbd hmp hms
      obtain ⟨n, hn⟩ : ∃ n, around x 1000 = n := ⟨_, rfl⟩
      rw [hn] at hbd hmp hms
      have HN := hide hn
      have HX := hide hx
      have HMP := hide hmp
      have HMP2 := hide hmp2
      have HMS := hide hms
      clear hxx hn hx hmp hmp2 hms hmf
      by_cases h0 : k = 0
      · subst h0
        have hmp := HMP.out rfl
        have HQ := hide hmp; clear hmp
        have h1 := mI_one l
        have h2 : mI l 0 = [] := by simp [mI]
        rw [h2] at hown
        have HH := hide h1; clear h1 h2
        simp only [Nat.add_zero] at hc
        go_wp2_with fail
        refine (around_any x 1000 _ HX.out (by omega)).mono ?_
        rintro e w' ⟨rfl, rfl⟩
        rw [HN.out]
        go_wp2
        go_roundw
        case rel => exact ⟨1, by omega, by omega, by go_num, by rw [HQ.out], by rw [HH.out]; exact hown, hext⟩
        case measure => (simp [intOf]) <;> omega
      · have hq2 := HMP2.out h0
        have HQ := hide hq2; clear hq2
        have hm2 := HMS.out (by omega)
        have HM := hide hm2; clear hm2
        have hkb : ((k : Int) == 0) = false := by simp; omega
        obtain ⟨F, hF⟩ : ∃ F, mI l k = F := ⟨_, rfl⟩
        rw [hF] at hown hml HM
        obtain ⟨q, hq⟩ : ∃ q, mP l k = q := ⟨_, rfl⟩
        rw [hq] at HQ ⊢
        clear hF hq
        go_wp2_with (first | (go_at_call 15; refine (around_any x 1000 _ HX.out (by omega)).mono ?_; rintro e w' ⟨rfl, rfl⟩; rw [HN.out]) | (at_builtin; refine wpList_append_own _ (by rfl) _ _ 28 (by rfl) w.heap.size 3 i0 (.int .i64 0) 1 8 Try.underlying28 hi hz0 hz1 hz2 rfl (by decide) _ F.length (F.flatMap encI) (by rfl) (hown.alloc _) ⟨wr.heap.size, 0, none⟩ 1 1 [.int .i64 (1 + n % 9)] (by rfl) (by rfl) (cells_new wr [.int .i64 (1 + n % 9)] 3) (by simp [Value.oneCell']) (by unfold maxLen; omega) (by omega) (by simp; omega) ?_; intro v2 w2 hown2 hgrow2 _))
        go_roundw
        case rel => exact ⟨k + 1, hlt, by omega, by go_num, by rw [HQ.out], by rw [HM.out, List.length_append, List.flatMap_append]; exact hown2, hext.app hown hgrow2⟩
        case measure => (simp [intOf]) <;> omega
    · have hfin : mI l k = madeI l := by
        unfold mI madeI
        by_cases h9 : k = 9
        · subst h9; rfl
        · have hkl : k = l.length := by omega
          rw [List.take_of_length_le (show l.length ≤ k by omega), List.take_of_length_le (show l.length ≤ 9 by omega)]
      have hfp : mP l k = madeP l := by
        unfold mP madeP
        cases l with
        | nil => split <;> rfl
        | cons y ys =>
          have : k ≠ 0 := fun e => hlt (by subst e; simp)
          simp [this]
      rw [hfin] at hown
      have HF := hide hfp; clear hfp
      by_cases h1 : k < l.length
      · have h2 : ¬ k < 9 := fun h => hlt ⟨h1, h⟩
        have h2' : k = 9 := by omega
        subst h2'
        go_wp2
        go_ret2
        exact ⟨_, by rw [← HF.out]; rfl, hown, hext⟩
      · have h2' : k = l.length := by omega
        subst h2'
        go_wp2
        go_ret2
        exact ⟨_, by rw [← HF.out]; rfl, hown, hext⟩
end Go.Proofs.Ytoncfogihiapiaa
