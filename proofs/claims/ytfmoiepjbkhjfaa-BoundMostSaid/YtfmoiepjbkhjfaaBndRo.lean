/- BoundRow: the walk. -/
import Derived.Test.YtfmoiepjbkhjfaaBndH
namespace Go.Proofs.Ytfmoiepjbkhjfaa
open Go.ChangeShapes Go.WideShapes Go.ChangeAt Go.RowKit Go.Maps Go.Shelf
theorem find_congr (R : List Int) (g h : Int → Bool) (e : ∀ x ∈ R, g x = h x) : R.find? g = R.find? h := by
  induction R with
  | nil => rfl
  | cons x R ih => rw [List.find?_cons, List.find?_cons, e x (by simp), ih (fun y hy => e y (List.mem_cons_of_mem _ hy))]
theorem pick_congr (R : List Int) (L M : List (Int × Int)) (p : Int) (h : ∀ x ∈ R, loadI M x = loadI L x) : pickOf R M p = pickOf R L p := by
  have hs : sumL R M = sumL R L := by unfold sumL; rw [List.map_congr_left h]
  unfold pickOf
  rw [hs]
  exact find_congr R _ _ (fun x hx => by rw [h x hx])
theorem loadF_mem (Q : List (Int × Int)) (hn : (Q.map Prod.fst).Nodup) (x c : Int) : loadF Q x = some c ↔ (x, c) ∈ Q := by
  induction Q with
  | nil => simp [loadF]
  | cons y Q ih =>
    simp only [List.map_cons, List.nodup_cons] at hn
    have ih := ih hn.2
    unfold loadF at ih ⊢
    rw [List.find?_cons]
    by_cases hy : y.1 = x
    · have e : (y.1 == x) = true := by simp [hy]
      rw [e]
      simp only [Option.map_some, Option.some.injEq, List.mem_cons]
      constructor
      · intro h; left; rw [← h, ← hy]
      · rintro (h | h)
        · rw [← h]
        · exfalso; exact hn.1 (List.mem_map.2 ⟨_, h, hy.symm⟩)
    · have e : (y.1 == x) = false := by simp [hy]
      rw [e]
      simp only [List.mem_cons]
      rw [ih]
      constructor
      · exact .inr
      · rintro (h | h)
        · exfalso; exact hy (by rw [← h])
        · exact h
theorem loadF_rev (Q : List (Int × Int)) (hn : (Q.map Prod.fst).Nodup) (x : Int) : loadF Q.reverse x = loadF Q x := by
  have hr : (Q.reverse.map Prod.fst).Nodup := by rw [List.map_reverse]; exact List.pairwise_reverse.2 (hn.imp (fun h => Ne.symm h))
  apply Option.ext
  intro c
  rw [loadF_mem _ hr, loadF_mem _ hn, List.mem_reverse]
def adj (S : List Int) (y : Int × Int) : Int × Int := if S.contains y.1 then y else (y.1, y.2 + 3)
theorem adj_fst (S : List Int) (y : Int × Int) : (adj S y).1 = y.1 := by unfold adj; split <;> rfl
theorem adj_bd (S : List Int) (y : Int × Int) : y.2 ≤ (adj S y).2 ∧ (adj S y).2 ≤ y.2 + 3 := by
  unfold adj; split
  · exact ⟨Int.le_refl _, by omega⟩
  · exact ⟨by show y.2 ≤ y.2 + 3; omega, Int.le_refl _⟩
theorem loadF_adj (S : List Int) (L : List (Int × Int)) (x : Int) (hx : S.contains x = true) : loadF (L.map (adj S)) x = loadF L x := by
  unfold loadF
  induction L with
  | nil => rfl
  | cons y L ih =>
    rw [List.map_cons, List.find?_cons, List.find?_cons, adj_fst]
    by_cases hy : y.1 = x
    · have e : (y.1 == x) = true := by simp [hy]
      have ea : adj S y = y := by unfold adj; rw [hy, if_pos hx]
      rw [e, ea]
    · have e : (y.1 == x) = false := by simp [hy]
      rw [e]; exact ih
def moreL (S : List Int) (Q : List (Int × Int)) : List (Int × Int) := [((50 : Int), (900 : Int)), (60, 1)] ++ (Q.map (adj S)).reverse
def turnL (Q : List Int) : List Int := [50, 51] ++ Q.reverse
theorem more_load (S : List Int) (L : List (Int × Int)) (hn : (L.map Prod.fst).Nodup) (x : Int) (hx : S.contains x = true) (hb : 1 ≤ x ∧ x ≤ 9) : loadI (moreL S L) x = loadI L x := by
  have h1 : loadF (moreL S L) x = loadF (L.map (adj S)).reverse x := by
    have e1 : ((50 : Int) == x) = false := by simp; omega
    have e2 : ((60 : Int) == x) = false := by simp; omega
    unfold moreL loadF
    simp [List.find?_cons, e1, e2]
  have hn' : ((L.map (adj S)).map Prod.fst).Nodup := by
    have : (L.map (adj S)).map Prod.fst = L.map Prod.fst := by rw [List.map_map]; exact List.map_congr_left (fun y _ => adj_fst S y)
    rw [this]; exact hn
  unfold loadI
  rw [h1, loadF_rev _ hn', loadF_adj S L x hx]
theorem turn_cnt (row S : List Int) (h : ∀ x ∈ row, 1 ≤ x ∧ x ≤ 9) : cnt row (turnL S) = cnt row S := by
  unfold cnt
  refine List.filter_congr (fun x hx => ?_)
  have := h x hx
  rw [Bool.eq_iff_iff]
  simp only [List.contains_iff_mem, turnL, List.mem_append, List.mem_reverse, List.mem_cons, List.not_mem_nil]
  constructor
  · rintro ((h | h | h) | h)
    · omega
    · omega
    · exact h.elim
    · exact h
  · exact .inr
theorem turnL_drop (S : List Int) (j : Nat) (h : j < S.length) : turnL (S.drop j) = turnL (S.drop (j+1)) ++ [S[j]] := by
  unfold turnL; rw [List.drop_eq_getElem_cons h]; simp
theorem moreL_drop (S : List Int) (L : List (Int × Int)) (j : Nat) (h : j < L.length) : moreL S (L.drop j) = moreL S (L.drop (j+1)) ++ [adj S L[j]] := by
  unfold moreL; rw [List.drop_eq_getElem_cons h, List.map_cons, List.reverse_cons, List.append_assoc]
theorem turnL_len (S : List Int) : (turnL S).length = 2 + S.length := by simp [turnL]; omega
theorem moreL_len (S : List Int) (L : List (Int × Int)) : (moreL S L).length = 2 + L.length := by simp [moreL]; omega
theorem turnL_64 (S : List Int) (h : ∀ x ∈ S, I64 x) : ∀ x ∈ turnL S, I64 x := by
  intro x hx
  simp only [turnL, List.mem_append, List.mem_reverse, List.mem_cons, List.not_mem_nil, or_false] at hx
  rcases hx with (rfl | rfl) | hx
  · unfold I64; omega
  · unfold I64; omega
  · exact h x hx
theorem moreL_bd (S : List Int) (L : List (Int × Int)) (h : ∀ x ∈ L, (1 ≤ x.1 ∧ x.1 ≤ 9) ∧ 0 ≤ x.2 ∧ x.2 ≤ 1000000) : ∀ x ∈ moreL S L, I64 x.1 ∧ 0 ≤ x.2 ∧ x.2 ≤ 2000000 := by
  intro x hx
  simp only [moreL, List.mem_append, List.mem_reverse, List.mem_cons, List.not_mem_nil, or_false, List.mem_map] at hx
  rcases hx with (rfl | rfl) | ⟨y, hy, rfl⟩
  · unfold I64; omega
  · unfold I64; omega
  · have h1 := h y hy
    have h2 := adj_bd S y
    rw [adj_fst]
    unfold I64; omega
theorem own_lit {w : World} {cs : Array Value} {e : TypeId} {size n : Nat} (hm : n ≤ maxLen) (hs : cs.size = n * size) : (w.alloc (.cells cs e)).ownsRow w.heap.size e size (.slice (some ⟨w.heap.size, 0, none⟩) n n) n cs.toList :=
  ⟨by simpa using hs, .inr ⟨w.heap.size, n, cs, rfl, Nat.le_refl _, heap_alloc_new w _, Nat.le_refl _, hm, hs, by rw [List.take_of_length_le (by simp; omega)]⟩⟩
set_option maxRecDepth 100000 in
set_option maxHeartbeats 4000000 in
theorem row10_walk (l some loads : List Int) (v u t : Value) (key percent : Int) (w : World) (h1 : Ints w v l) (h1i : ∀ x ∈ l, I64 x) (h3 : Ints w u some) (h3i : ∀ x ∈ some, I64 x) (h4 : Ints w t loads) (h4i : ∀ x ∈ loads, I64 x) (h5 : I64 percent) :
    Calls Try.prog 12 #[v, .int .u64 key, u, t, .int .i64 percent] w fun e w' => e = .returned (.bool true) ∧ Ext w w' := by
  obtain ⟨i0, hi, hz0, hz1, hz2⟩ := info_parts' Try.infoI
  obtain ⟨il, hil0, hlz0, hlz1, hlz2⟩ := info_parts' Try.infoL
  obtain ⟨p0, hp0, hof⟩ := of10r_any l 4 key v w h1 h1i (by unfold I64; omega)
  obtain ⟨_, ax, cx, rfl⟩ := h1.shape
  obtain ⟨_, ay, cy, rfl⟩ := h3.shape
  obtain ⟨_, az, cz, rfl⟩ := h4.shape
  have H3 := hide h3
  have H4 := hide h4
  have H3I := hide h3i
  have H4I := hide h4i
  have HOF := hide hof
  have b1 := around_bd percent 901 (by omega)
  have har : ∀ u : World, Calls Try.prog 14 #[.int .i64 percent, .int .i64 901] u fun e w' => e = .returned (.int .i64 (around percent 901)) ∧ u = w' := fun u => around_any percent _ u h5 (by omega)
  obtain ⟨q, hq⟩ : ∃ q, around percent 901 = q := ⟨_, rfl⟩
  rw [hq] at b1 har
  have HAR := hide har
  have hil := idsI_len some
  have hll := loadsI_len loads
  clear h1 h3 h4 h1i h3i h4i hof hq har
  go_enter Try.func12, Try.ntmps12
  go_wp2_with fail
  refine HOF.out.mono ?_
  rintro e w1 ⟨B, v1, rfl, hr1, hrow1, E1⟩
  have hrb := (row_bd key p0 (by omega) l).2
  have hpick : ∀ (u : World) (x y : Value) (S : List Int) (L : List (Int × Int)), RingAt u (.pointer (Option.some ⟨B, 0, none⟩)) (ends (idsI l)).length (pointsOf p0 (idsI l)) → Ints u x S → Parts u y L → S.length ≤ 1000 → (∀ x ∈ S, I64 x) → L.length ≤ 1000 → (∀ x ∈ L, I64 x.1) → (∀ x ∈ L, 0 ≤ x.2 ∧ x.2 ≤ 2000000) → Calls Try.prog 30 #[.pointer (Option.some ⟨B, 0, none⟩), .int .u64 key, x, y, .int .i64 (100 + q)] u fun e w' => e = .returned (.tuple #[.int .i64 ((pickOf (cnt (rowOf key (pointsOf p0 (idsI l))) S) L (100 + q)).getD 0), .bool (pickOf (cnt (rowOf key (pointsOf p0 (idsI l))) S) L (100 + q)).isSome]) ∧ Ext u w' := fun u x y S L hr hs ht h0 h00 h1 h2 h3 =>
    pickI_any l S L p0 key (100 + q) _ _ _ u hr hs ht (by omega) h0 h00 h1 h2 h3 (by omega)
  obtain ⟨row, hrw⟩ : ∃ row, rowOf key (pointsOf p0 (idsI l)) = row := ⟨_, rfl⟩
  rw [hrw] at hrb hpick
  have HP := hide hpick
  have HR1 := hide hr1
  have HRB := hide hrb
  clear hr1 hrow1 hpick hrw hrb
  go_wp2_with fail
  refine (ids_any some _ _ (H3.out.ext E1) H3I.out).mono ?_
  rintro e w2 ⟨v2, rfl, ho2, E2⟩
  have hs2 := own_ints_b ho2 (by omega)
  clear ho2
  go_wp2_with fail
  refine (loads_any loads _ _ ((H4.out.ext E1).ext E2) H4I.out).mono ?_
  rintro e w3 ⟨v3, rfl, ho3, E3⟩
  have hl3 := own_parts ho3 (by omega)
  have hs3 := hs2.ext E3
  clear ho3 hs2
  have hS64 := idsI_64 some
  have hLb := loadsI_bd loads
  have hLn : ((loadsI loads).map Prod.fst).Nodup := by rw [loadsI_fst]; exact idsI_nodup loads
  have hsl : (idsI some).length ≤ 12 := hil.2
  obtain ⟨S, hS⟩ : ∃ S, idsI some = S := ⟨_, rfl⟩
  obtain ⟨L, hL⟩ : ∃ L, loadsI loads = L := ⟨_, rfl⟩
  rw [hS] at hs3 hS64 hsl
  rw [hL] at hl3 hLb hLn hll
  have hslz : (S.length : Int) ≤ 12 := by omega
  have hllz : (L.length : Int) ≤ 12 := by omega
  obtain ⟨_, asx, csx, rfl⟩ := hs3.shape
  obtain ⟨_, alx, clx, rfl⟩ := hl3.shape
  have HS := hide hs3
  have HL := hide hl3
  have HS64 := hide hS64
  have HLB := hide hLb
  have HLN := hide hLn
  have HR3 := hide ((HR1.out.ext E2).ext E3)
  clear hs3 hl3 hS hL hS64 hLb hLn HR1 hil
  go_wp2_with fail
  refine (HAR.out _).mono ?_
  rintro e w3' ⟨rfl, rfl⟩
  have hown4 := own_lit (w := w3) (cs := #[.int .i64 50, .int .i64 51]) (e := 3) (size := 1) (n := 2) (by decide) (by rfl)
  have HO4 := hide hown4
  clear hown4
  have e4 : Ext w3 (w3.alloc (.cells #[.int .i64 50, .int .i64 51] 3)) := (Below.refl _ w3).alloc (Nat.le_refl _) _
  go_wp2_with fail
  go_loopw [16, 17] (fun v i wr => ∃ k : Nat, k ≤ S.length ∧ i = .int .i64 ((k : Int) - 1) ∧ wr.ownsRow w3.heap.size 3 1 v (2 + (S.length - k)) ((turnL (S.drop k)).flatMap encI) ∧ Ext w3 wr)
    (fun _ i _ => (intOf i + 1).toNat)
  case atStart => exact ⟨S.length, Nat.le_refl _, rfl, by simpa [turnL, encI] using HO4.out, e4⟩
  case round =>
    obtain ⟨k, hk, rfl, hown, hext⟩ := hrel
    cases k with
    | succ j =>
      have ej : ((j + 1 : Nat) : Int) - 1 = (j : Int) := by omega
      rw [ej]
      have hlt : j < S.length := by omega
      obtain ⟨b, off, rfl, hbb, hc⟩ := ints_at (HS.out.ext hext) j hlt
      have hcs := turnL_drop S j hlt
      have hsz := hext.size
      obtain ⟨x, hxx⟩ : ∃ x, S[j] = x := ⟨_, rfl⟩
      rw [hxx] at hc hcs
      have HCS := hide hcs
      clear hxx hcs
      have hnl : 2 + (S.length - j) = 2 + (S.length - (j+1)) + 1 := by omega
      have HNL := hide hnl
      clear hnl
      obtain ⟨n, hn⟩ : ∃ n, 2 + (S.length - (j+1)) = n := ⟨_, rfl⟩
      have hn14 : n ≤ 14 := by omega
      rw [hn] at hown HNL
      clear hn
      go_wp2_with (at_builtin; refine wpList_append_own _ (by rfl) _ _ 22 (by rfl) _ 3 i0 (.int .i64 0) 1 8 Try.underlying22 hi hz0 hz1 hz2 rfl (by decide) _ n _ (by rfl) (hown.alloc _) ⟨wr.heap.size, 0, none⟩ 1 1 [.int .i64 x] (by rfl) (by rfl) (cells_new wr [.int .i64 x] 3) (by simp [Value.oneCell']) (by unfold maxLen; omega) (by omega) (by simp; omega) ?_; intro v2 w2 hown2 hgrow2 _)
      go_roundw
      case rel => exact ⟨j, by omega, by go_num, by rw [HCS.out, List.flatMap_append, HNL.out]; exact hown2, hext.app hown hgrow2⟩
      case measure => (simp [intOf]) <;> omega
    | zero =>
      have ej : ((0 : Nat) : Int) - 1 = -1 := rfl
      rw [ej]
      rw [List.drop_zero] at hown
      have hti := own_ints_b hown (by rw [turnL_len]; omega)
      have HT := hide hti
      have hw4 := hext.size
      have HLx := hide (HL.out.ext hext)
      have HSx := hide (HS.out.ext hext)
      clear hown hti
      obtain ⟨w4, hw⟩ : ∃ w4, wr = w4 := ⟨_, rfl⟩
      rw [hw] at hext HT hw4 HLx HSx ⊢
      clear hw
      have hown5 := own_lit (w := w4) (cs := #[.int .i64 50, .int .i64 900, .int .i64 60, .int .i64 1]) (e := 56) (size := 2) (n := 2) (by decide) (by rfl)
      have HO5 := hide hown5
      clear hown5
      have e5 : Ext w4 (w4.alloc (.cells #[.int .i64 50, .int .i64 900, .int .i64 60, .int .i64 1] 56)) := (Below.refl _ w4).alloc (Nat.le_refl _) _
      go_wp2_with fail
      go_loopw [18, 19] (fun v i wr => ∃ k : Nat, k ≤ L.length ∧ i = .int .i64 ((k : Int) - 1) ∧ wr.ownsRow w4.heap.size 56 2 v (2 + (L.length - k)) ((moreL S (L.drop k)).flatMap encP) ∧ Ext w4 wr)
        (fun _ i _ => (intOf i + 1).toNat)
      case atStart => exact ⟨L.length, Nat.le_refl _, rfl, by simpa [moreL, encP] using HO5.out, e5⟩
      case round =>
        obtain ⟨k, hk, rfl, hown, hext2⟩ := hrel
        cases k with
        | succ j =>
          have ej : ((j + 1 : Nat) : Int) - 1 = (j : Int) := by omega
          rw [ej]
          have hlt : j < L.length := by omega
          obtain ⟨b, off, rfl, hbb, hc1, hc2⟩ := parts_at (HLx.out.ext hext2) j hlt
          have hcs := moreL_drop S L j hlt
          have had : adj S L[j] = if S.contains L[j].1 then L[j] else (L[j].1, L[j].2 + 3) := rfl
          have hbd := HLB.out _ (List.getElem_mem hlt)
          have hsz := hext2.size
          obtain ⟨⟨x, c⟩, hxx⟩ : ∃ x, L[j] = x := ⟨_, rfl⟩
          rw [hxx] at hc1 hc2 hcs had hbd
          have hnl : 2 + (L.length - j) = 2 + (L.length - (j+1)) + 1 := by omega
          have HNL := hide hnl
          clear hnl hxx
          obtain ⟨n, hn⟩ : ∃ n, 2 + (L.length - (j+1)) = n := ⟨_, rfl⟩
          have hn14 : n ≤ 14 := by omega
          rw [hn] at hown HNL
          obtain ⟨hbd1, hbd2⟩ := hbd
          clear hn
          by_cases hin : S.contains x = true
          · rw [if_pos hin] at had
            rw [had] at hcs
            have HCS := hide hcs
            clear hcs had
            go_wp2_with (first
              | (go_at_call 32; refine (has_any S x _ _ (HSx.out.ext hext2)).mono ?_; rintro e w' ⟨rfl, rfl⟩; rw [hin])
              | (at_builtin; refine wpList_append_own _ (by rfl) _ _ 47 (by rfl) _ 56 il _ 2 16 Try.underlying47 hil0 hlz0 hlz1 hlz2 rfl (by decide) _ n _ (by rfl) (hown.alloc _) ⟨wr.heap.size, 0, none⟩ 1 1 [.int .i64 x, .int .i64 c] (by rfl) (by rfl) (World.news_of_block (cs := #[.int .i64 x, .int .i64 c]) (t := 56) (fr := (0, 0)) (heap_alloc_new wr _)) (by simp [Value.oneCell']) (by unfold maxLen; omega) (by omega) (by simp; omega) ?_; intro v2 w2 hown2 hgrow2 _))
            go_roundw
            case rel => exact ⟨j, by omega, by go_num, by rw [HCS.out, List.flatMap_append, HNL.out]; exact hown2, hext2.app hown hgrow2⟩
            case measure => (simp [intOf]) <;> omega
          · have hin' : S.contains x = false := by simpa using hin
            rw [if_neg hin] at had
            rw [had] at hcs
            have HCS := hide hcs
            have hwr : IntKind.i64.wrap (c + 3) = c + 3 := by simp [IntKind.wrap, IntKind.signed, IntKind.bits]; omega
            clear hcs had hin
            go_wp2_with (go_at_call 32; refine (has_any S x _ _ (HSx.out.ext hext2)).mono ?_; rintro e w' ⟨rfl, rfl⟩; rw [hin'])
            go_region_law (refine step_append_own (by rfl) _ _ _ (by rfl) _ 56 il _ 2 16 Try.underlying47 hil0 hlz0 hlz1 hlz2 rfl (by omega) _ n _ (by rfl) ((hown.alloc _).drew) ⟨wr.heap.size, 0, none⟩ 1 1 [.int .i64 x, .int .i64 (c + 3)] (by rfl) (by rfl) (World.news_of_block (cs := #[.int .i64 x, .int .i64 (c + 3)]) (t := 56) (fr := (0, 0)) (heap_alloc_new wr _)) (by simp [Value.oneCell']) (by unfold maxLen; omega) (by omega) (by simp; omega) ?_; intro v2 w2 hown2 hgrow2 _)
            all_goals
              go_wp2
              go_roundw
              case rel => exact ⟨j, by omega, by go_num, by rw [HCS.out, List.flatMap_append, HNL.out]; exact hown2, hext2.appD hown hgrow2⟩
              case measure => (simp [intOf]) <;> omega
        | zero =>
          have ej : ((0 : Nat) : Int) - 1 = -1 := rfl
          rw [ej]
          rw [List.drop_zero] at hown
          have hmp := own_parts hown (by rw [moreL_len]; omega)
          have HM := hide hmp
          have hmb := moreL_bd S L HLB.out
          have hpe : pickOf (cnt row (turnL S)) (moreL S L) (100 + q) = pickOf (cnt row S) L (100 + q) := by
            rw [turn_cnt row S HRB.out]
            refine pick_congr _ _ _ _ (fun x hx => ?_)
            have hx' := List.mem_filter.1 hx
            exact more_load S L HLN.out x hx'.2 (HRB.out x hx'.1)
          have hP1 : ∀ (u : World) (x y : Value), RingAt u (.pointer (Option.some ⟨B, 0, none⟩)) (ends (idsI l)).length (pointsOf p0 (idsI l)) → Ints u x S → Parts u y L → Calls Try.prog 30 #[.pointer (Option.some ⟨B, 0, none⟩), .int .u64 key, x, y, .int .i64 (100 + q)] u fun e w' => e = .returned (.tuple #[.int .i64 ((pickOf (cnt row S) L (100 + q)).getD 0), .bool (pickOf (cnt row S) L (100 + q)).isSome]) ∧ Ext u w' := fun u x y h1 h2 h3 =>
            HP.out u x y S L h1 h2 h3 (by omega) HS64.out (by omega) (fun z hz => by have := HLB.out z hz; unfold I64; omega) (fun z hz => by have := HLB.out z hz; omega)
          have hP2 : ∀ (u : World) (x y : Value), RingAt u (.pointer (Option.some ⟨B, 0, none⟩)) (ends (idsI l)).length (pointsOf p0 (idsI l)) → Ints u x (turnL S) → Parts u y (moreL S L) → Calls Try.prog 30 #[.pointer (Option.some ⟨B, 0, none⟩), .int .u64 key, x, y, .int .i64 (100 + q)] u fun e w' => e = .returned (.tuple #[.int .i64 ((pickOf (cnt row S) L (100 + q)).getD 0), .bool (pickOf (cnt row S) L (100 + q)).isSome]) ∧ Ext u w' := fun u x y h1 h2 h3 => by
            have := HP.out u x y (turnL S) (moreL S L) h1 h2 h3 (by rw [turnL_len]; omega) (turnL_64 S HS64.out) (by rw [moreL_len]; omega) (fun z hz => (hmb z hz).1) (fun z hz => (hmb z hz).2)
            rw [hpe] at this; exact this
          obtain ⟨X, hX⟩ : ∃ X, (pickOf (cnt row S) L (100 + q)).getD 0 = X := ⟨_, rfl⟩
          obtain ⟨T, hT⟩ : ∃ T, (pickOf (cnt row S) L (100 + q)).isSome = T := ⟨_, rfl⟩
          rw [hX, hT] at hP1 hP2
          have HP1 := hide hP1
          have HP2 := hide hP2
          clear hP1 hP2 hpe hmb hX hT hown hmp
          go_wp2_with fail
          refine (HP1.out _ _ _ ((HR3.out.ext hext).ext hext2) (HSx.out.ext hext2) (HLx.out.ext hext2)).mono ?_
          rintro e w6 ⟨rfl, E6⟩
          go_wp2_with fail
          refine (HP2.out _ _ _ (((HR3.out.ext hext).ext hext2).ext E6) ((HT.out.ext hext2).ext E6) (HM.out.ext E6)).mono ?_
          rintro e w7 ⟨rfl, E7⟩
          go_wp2_with fail
          refine (lives10_any _).mono ?_
          rintro e w8 ⟨rfl, E8⟩
          go_wp2_with fail
          go_ret
          exact ⟨rfl, E1.trans (E2.trans (E3.trans (hext.trans (hext2.trans (E6.trans (E7.trans E8))))))⟩
end Go.Proofs.Ytfmoiepjbkhjfaa
