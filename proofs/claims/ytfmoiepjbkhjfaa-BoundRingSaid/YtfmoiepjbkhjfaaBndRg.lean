/- BoundRing: the walk. -/
import Derived.Test.YtfmoiepjbkhjfaaBndH
namespace Go.Proofs.Ytfmoiepjbkhjfaa
open Go.ChangeShapes Go.WideShapes Go.ChangeAt Go.RowKit Go.Maps Go.Shelf
theorem pick_first (R : List Int) (L : List (Int × Int)) (p : Int) (h : ∀ x ∈ R, loadI L x < capI (sumL R L) R.length p) : pickOf R L p = R.head? := by
  unfold pickOf
  cases R with
  | nil => rfl
  | cons x R => rw [List.find?_cons_of_pos (by simpa using h x (by simp))]; rfl
theorem sumL_same (R : List Int) (L : List (Int × Int)) (c : Int) (h : ∀ x ∈ R, loadI L x = c) : sumL R L = c * R.length := by
  unfold sumL
  induction R with
  | nil => simp
  | cons x R ih =>
    have h1 := ih (fun y hy => h y (List.mem_cons_of_mem _ hy))
    simp only [List.map_cons, List.sum_cons, List.length_cons, h1, h x (by simp)]
    have e : c * ((R.length + 1 : Nat) : Int) = c * (R.length : Int) + c := by rw [Int.natCast_add, Int.mul_add]; simp
    omega
theorem pick_alike (R : List Int) (L : List (Int × Int)) (c p : Int) (hc : 0 ≤ c ∧ c ≤ 2000) (hl : R.length ≤ 1000) (hp : 100 ≤ p ∧ p ≤ 1000) (h : ∀ x ∈ R, loadI L x = c) : pickOf R L p = R.head? := by
  refine pick_first R L p (fun x hx => ?_)
  have hpos := List.length_pos_of_mem hx
  rw [h x hx, sumL_same R L c h]
  have h1 : 0 ≤ c * (R.length : Int) := Int.mul_nonneg hc.1 (by omega)
  have h2 : c * (R.length : Int) ≤ 2000 * 1000 := Int.le_trans (Int.mul_le_mul_of_nonneg_right hc.2 (by omega)) (Int.mul_le_mul_of_nonneg_left (by omega) (by omega))
  have := (cap_bd (c * R.length) R.length p (by omega) (by omega) hp).1
  exact Int.lt_of_mul_lt_mul_right this (by omega)
def alk (c : Int) (k : Nat) : List (Int × Int) := (List.range k).map (fun i : Nat => ((1 + i : Int), c))
theorem alk_succ (c : Int) (k : Nat) : alk c (k+1) = alk c k ++ [((1 + k : Int), c)] := by simp [alk, List.range_succ]
theorem alk_len (c : Int) (k : Nat) : (alk c k).length = k := by simp [alk]
theorem alk_load (c x : Int) (hx : 1 ≤ x ∧ x ≤ 9) : loadI (alk c 9) x = c := by
  have h : x = 1 ∨ x = 2 ∨ x = 3 ∨ x = 4 ∨ x = 5 ∨ x = 6 ∨ x = 7 ∨ x = 8 ∨ x = 9 := by omega
  rcases h with rfl | rfl | rfl | rfl | rfl | rfl | rfl | rfl | rfl <;> rfl
theorem alk_mem (c : Int) (k : Nat) (hk : k ≤ 9) : ∀ x ∈ alk c k, (1 ≤ x.1 ∧ x.1 ≤ 9) ∧ x.2 = c := by
  intro x hx
  simp only [alk, List.mem_map, List.mem_range] at hx
  obtain ⟨i, hi, rfl⟩ := hx
  exact ⟨by simp; omega, rfl⟩
theorem cnt_drop (row S : List Int) (j : Nat) (h : j < row.length) : cnt (row.drop j) S = if S.contains row[j] then row[j] :: cnt (row.drop (j+1)) S else cnt (row.drop (j+1)) S := by
  rw [List.drop_eq_getElem_cons h]
  unfold cnt
  rw [List.filter_cons]
set_option maxRecDepth 100000 in
set_option maxHeartbeats 4000000 in
theorem ring10_walk (l some : List Int) (v u : Value) (key load : Int) (w : World) (h1 : Ints w v l) (h1i : ∀ x ∈ l, I64 x) (h3 : Ints w u some) (h3i : ∀ x ∈ some, I64 x) (h5 : I64 load) :
    Calls Try.prog 11 #[v, .int .u64 key, u, .int .i64 load] w fun e w' => e = .returned (.bool true) ∧ Ext w w' := by
  obtain ⟨i0, hi, hz0, hz1, hz2⟩ := info_parts' Try.infoL
  obtain ⟨p0, hp0, hof⟩ := of10r_any l 4 key v w h1 h1i (by unfold I64; omega)
  obtain ⟨_, ax, cx, rfl⟩ := h1.shape
  obtain ⟨_, ay, cy, rfl⟩ := h3.shape
  have H3 := hide h3
  have H3I := hide h3i
  have HOF := hide hof
  have b1 := around_bd load 1000 (by omega)
  have har : ∀ u : World, Calls Try.prog 14 #[.int .i64 load, .int .i64 1000] u fun e w' => e = .returned (.int .i64 (around load 1000)) ∧ u = w' := fun u => around_any load _ u h5 (by omega)
  obtain ⟨q, hq⟩ : ∃ q, around load 1000 = q := ⟨_, rfl⟩
  rw [hq] at b1 har
  have HAR := hide har
  have hil := idsI_len some
  clear h1 h3 h1i h3i hof hq har
  go_enter Try.func11, Try.ntmps11
  go_wp2_with fail
  refine HOF.out.mono ?_
  rintro e w1 ⟨B, v1, rfl, hr1, hrow1, E1⟩
  have hrb := row_bd key p0 (by omega) l
  have hpick : ∀ (u : World) (x y : Value) (L : List (Int × Int)) (p : Int), RingAt u (.pointer (Option.some ⟨B, 0, none⟩)) (ends (idsI l)).length (pointsOf p0 (idsI l)) → Ints u x (idsI some) → Parts u y L → L.length ≤ 1000 → (∀ x ∈ L, I64 x.1) → (∀ x ∈ L, 0 ≤ x.2 ∧ x.2 ≤ 2000000) → 0 ≤ p ∧ p ≤ 1100 → Calls Try.prog 30 #[.pointer (Option.some ⟨B, 0, none⟩), .int .u64 key, x, y, .int .i64 p] u fun e w' => e = .returned (.tuple #[.int .i64 ((pickOf (cnt (rowOf key (pointsOf p0 (idsI l))) (idsI some)) L p).getD 0), .bool (pickOf (cnt (rowOf key (pointsOf p0 (idsI l))) (idsI some)) L p).isSome]) ∧ Ext u w' := fun u x y L p hr hs ht h1 h2 h3 h4 =>
    pickI_any l (idsI some) L p0 key p _ _ _ u hr hs ht (by omega) (by omega) (idsI_64 some) h1 h2 h3 h4
  obtain ⟨row, hrw⟩ : ∃ row, rowOf key (pointsOf p0 (idsI l)) = row := ⟨_, rfl⟩
  rw [hrw] at hrow1 hrb hpick
  obtain ⟨hrb1, hrb2⟩ := hrb
  obtain ⟨_, ar, cr, rfl⟩ := hrow1.shape
  have HP := hide hpick
  have HR1 := hide hr1
  have HW1 := hide hrow1
  have HRB := hide hrb2
  have hrl : (row.length : Int) ≤ 12 := by omega
  clear hr1 hrow1 hpick hrw hrb2
  go_wp2_with fail
  refine (ids_any some _ _ (H3.out.ext E1) H3I.out).mono ?_
  rintro e w2 ⟨v2, rfl, ho2, E2⟩
  have HS := hide (own_ints_b ho2 (by omega))
  clear ho2
  have HW3 := hide (HW1.out.ext E2)
  have HR3 := hide (HR1.out.ext E2)
  obtain ⟨S, hS⟩ : ∃ S, idsI some = S := ⟨_, rfl⟩
  rw [hS] at HS HP
  clear hS HW1 HR1 hil
  go_wp2
  go_loopw [12, 13] (fun n i wr => ∃ k : Nat, k ≤ row.length ∧ i = .int .i64 ((k : Int) - 1) ∧ n = .int .i64 (((cnt (row.drop k) S).head?).getD 0) ∧ wr = w2)
    (fun _ i _ => (intOf i + 1).toNat)
  case atStart => exact ⟨row.length, Nat.le_refl _, rfl, by simp [cnt], rfl⟩
  case round =>
    obtain ⟨k, hk, rfl, rfl, rfl⟩ := hrel
    cases k with
    | succ j =>
      have ej : ((j + 1 : Nat) : Int) - 1 = (j : Int) := by omega
      rw [ej]
      have hlt : j < row.length := by omega
      obtain ⟨b, off, rfl, hbb, hc⟩ := ints_at HW3.out j hlt
      have hcs := cnt_drop row S j hlt
      obtain ⟨x, hxx⟩ : ∃ x, row[j] = x := ⟨_, rfl⟩
      rw [hxx] at hc hcs
      obtain ⟨F, hF⟩ : ∃ F, cnt (row.drop (j+1)) S = F := ⟨_, rfl⟩
      rw [hF] at hcs ⊢
      clear hxx hF
      by_cases hin : S.contains x = true
      · rw [if_pos hin] at hcs
        have HCS := hide hcs; clear hcs
        go_wp2_with fail
        refine (has_any S x _ _ HS.out).mono ?_
        rintro e w' ⟨rfl, rfl⟩
        rw [hin]
        go_wp2
        go_roundw
        case rel => exact ⟨j, by omega, by go_num, by rw [HCS.out]; rfl, trivial⟩
        case measure => (simp [intOf]) <;> omega
      · have hin' : S.contains x = false := by simpa using hin
        rw [if_neg hin] at hcs
        have HCS := hide hcs; clear hcs hin
        go_wp2_with fail
        refine (has_any S x _ _ HS.out).mono ?_
        rintro e w' ⟨rfl, rfl⟩
        rw [hin']
        go_wp2
        go_roundw
        case rel => exact ⟨j, by omega, by go_num, by rw [HCS.out], trivial⟩
        case measure => (simp [intOf]) <;> omega
    | zero =>
      have ej : ((0 : Nat) : Int) - 1 = -1 := rfl
      rw [ej, List.drop_zero]
      have hcl : (cnt row S).length ≤ row.length := cnt_le _ _
      have hmem : ∀ x ∈ cnt row S, 1 ≤ x ∧ x ≤ 9 := fun x hx => HRB.out x (List.mem_filter.1 hx).1
      have hp1 := pick_alike (cnt row S) [] 0 100 (by omega) (by omega) (by omega) (fun x _ => rfl)
      have hp2 := pick_alike (cnt row S) (alk (1 + q) 9) (1 + q) 1000 (by omega) (by omega) (by omega) (fun x hx => alk_load _ x (hmem x hx))
      have hP1 : ∀ (u : World) (x : Value), RingAt u (.pointer (Option.some ⟨B, 0, none⟩)) (ends (idsI l)).length (pointsOf p0 (idsI l)) → Ints u x S → Calls Try.prog 30 #[.pointer (Option.some ⟨B, 0, none⟩), .int .u64 key, x, .slice none 0 0, .int .i64 100] u fun e w' => e = .returned (.tuple #[.int .i64 (((cnt row S).head?).getD 0), .bool ((cnt row S).head?).isSome]) ∧ Ext u w' := fun u x h1 h2 => by
        have := HP.out u x (.slice none 0 0) [] 100 h1 h2 (parts_nil u 0 (by omega)) (by simp) (by simp) (by simp) (by omega)
        rw [hp1] at this; exact this
      have hP2 : ∀ (u : World) (x y : Value), RingAt u (.pointer (Option.some ⟨B, 0, none⟩)) (ends (idsI l)).length (pointsOf p0 (idsI l)) → Ints u x S → Parts u y (alk (1 + q) 9) → Calls Try.prog 30 #[.pointer (Option.some ⟨B, 0, none⟩), .int .u64 key, x, y, .int .i64 1000] u fun e w' => e = .returned (.tuple #[.int .i64 (((cnt row S).head?).getD 0), .bool ((cnt row S).head?).isSome]) ∧ Ext u w' := fun u x y h1 h2 h3 => by
        have := HP.out u x y (alk (1 + q) 9) 1000 h1 h2 h3 (by rw [alk_len]; omega) (fun x hx => by have := alk_mem _ 9 (by omega) x hx; unfold I64; omega) (fun x hx => by have := alk_mem _ 9 (by omega) x hx; omega) (by omega)
        rw [hp2] at this; exact this
      obtain ⟨X, hX⟩ : ∃ X, ((cnt row S).head?).getD 0 = X := ⟨_, rfl⟩
      obtain ⟨T, hT⟩ : ∃ T, ((cnt row S).head?).isSome = T := ⟨_, rfl⟩
      rw [hX, hT] at hP1 hP2
      rw [hX]
      have HP1 := hide hP1
      have HP2 := hide hP2
      clear hP1 hP2 hp1 hp2 hmem hcl hX hT
      go_wp2
      go_loopw [14, 15] (fun v i wx => ∃ k : Nat, k ≤ 9 ∧ i = .int .i64 (1 + (k : Int)) ∧ wx.ownsRow wr.heap.size 56 2 v k ((alk (1 + q) k).flatMap encP) ∧ Ext wr wx)
        (fun _ i _ => (10 - intOf i).toNat)
      case atStart => exact ⟨0, by omega, rfl, by simpa [alk] using World.ownsRow_nil _ _ _ _, Below.refl _ _⟩
      case round =>
        obtain ⟨k, hk, rfl, hown, hext⟩ := hrel
        by_cases hlt : k < 9
        · have hsz := hext.size
          have hsn := alk_succ (1 + q) k
          have HSN := hide hsn
          clear hsn
          go_wp2_with (first
            | (go_at_call 14; refine (HAR.out _).mono ?_; rintro e w' ⟨rfl, rfl⟩)
            | (at_builtin; refine wpList_append_own _ (by rfl) _ _ 47 (by rfl) _ 56 i0 _ 2 16 Try.underlying47 hi hz0 hz1 hz2 rfl (by decide) _ k _ (by rfl) (hown.alloc _) ⟨wr.heap.size, 0, none⟩ 1 1 [.int .i64 (1 + k), .int .i64 (1 + q)] (by rfl) (by rfl) (World.news_of_block (cs := #[.int .i64 (1 + k), .int .i64 (1 + q)]) (t := 56) (fr := (0, 0)) (heap_alloc_new wr _)) (by simp [Value.oneCell']) (by unfold maxLen; omega) (by omega) (by simp; omega) ?_; intro v2 w2 hown2 hgrow2 _))
          go_roundw
          case rel => exact ⟨k + 1, by omega, by go_num, by rw [HSN.out, List.flatMap_append]; exact hown2, hext.app hown hgrow2⟩
          case measure => (simp [intOf]) <;> omega
        · obtain rfl : k = 9 := by omega
          have hpl := own_parts hown (by rw [alk_len]; omega)
          have HPL := hide hpl
          clear hown hpl
          go_wp2_with fail
          refine (HP1.out _ _ (HR3.out.ext hext) (HS.out.ext hext)).mono ?_
          rintro e w5 ⟨rfl, E5⟩
          go_wp2_with fail
          refine (HP2.out _ _ _ ((HR3.out.ext hext).ext E5) ((HS.out.ext hext).ext E5) (HPL.out.ext E5)).mono ?_
          rintro e w6 ⟨rfl, E6⟩
          go_wp2_with fail
          refine (lives10_any _).mono ?_
          rintro e w7 ⟨rfl, E7⟩
          go_wp2_with fail
          go_ret
          exact ⟨rfl, E1.trans (E2.trans (hext.trans (E5.trans (E6.trans E7))))⟩
end Go.Proofs.Ytfmoiepjbkhjfaa
