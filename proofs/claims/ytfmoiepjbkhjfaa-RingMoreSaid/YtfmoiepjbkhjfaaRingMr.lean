/- RingMore: the walk. -/
import Derived.Test.YtfmoiepjbkhjfaaRingLs
import Derived.Test.YtfmoiepjbkhjfaaApp
namespace Go.Proofs.Ytfmoiepjbkhjfaa
open Go.ChangeShapes Go.WideShapes Go.ChangeAt Go.RowKit Go.Sort Go.Shelf
theorem wo_more (I : List Int) (own : Int) (hn : own ∉ I) : wo (I ++ [own]) own = I := by
  unfold wo
  rw [List.filter_append]
  have : I.filter (fun x => x != own) = I := List.filter_eq_self.2 (fun x hx => by
    have : x ≠ own := fun e => hn (e ▸ hx)
    simp [this])
  rw [this]; simp
theorem more_k (key : Int) (p : Nat) (hp : 0 < p) (I : List Int) (own : Int) (hn : own ∉ I) :
    ∃ b, ofK key p (I ++ [own]) = some b ∧ ((ofK key p I = none ∧ b = own) ∨ (ofK key p I = some b) ∨ (∃ a, ofK key p I = some a ∧ b = own ∧ (own != a) = true)) := by
  have h := row_wo key p (I ++ [own]) own
  rw [wo_more I own hn] at h
  have hm : own ∈ rowOf key (pointsOf p (I ++ [own])) := (rowOf_mem key p hp _ own).2 (by simp)
  unfold ofK
  rw [h]
  cases hr : rowOf key (pointsOf p (I ++ [own])) with
  | nil => rw [hr] at hm; cases hm
  | cons b t =>
    refine ⟨b, rfl, ?_⟩
    by_cases hb : b = own
    · subst hb
      have e : wo (b :: t) b = wo t b := by simp [wo]
      rw [e]
      cases hw : wo t b with
      | nil => exact .inl ⟨rfl, rfl⟩
      | cons a t' =>
        refine .inr (.inr ⟨a, rfl, rfl, ?_⟩)
        have ha : a ∈ wo t b := by rw [hw]; simp
        have := (List.mem_filter.1 ha).2
        have hab : a ≠ b := by simpa using this
        have hba : b ≠ a := fun e => hab e.symm
        simp [hba]
    · have e : wo (b :: t) own = b :: wo t own := by simp [wo, hb]
      rw [e]
      exact .inr (.inl rfl)
theorem ends_more (I : List Int) (own : Int) (hn : own ∉ I) : (ends (I ++ [own])).length = (ends I).length + 1 := by
  have hp : (ends (I ++ [own])).Perm (own :: ends I) := (List.perm_ext_iff_of_nodup (ends_nodup _) (List.nodup_cons.2 ⟨by rw [ends_mem]; exact hn, ends_nodup I⟩)).2 (fun x => by simp [ends_mem, or_comm])
  rw [hp.length_eq]; rfl
theorem three_cell {w : World} {g : Nat} {k0 k1 k2 : Int} {t : TypeId} (h : w.heap[g]? = some (.cells #[.int .u64 k0, .int .u64 k1, .int .u64 k2] t (0, 0))) (k : Nat) (hk : k < 3) : ∃ z, w.cell? ⟨g, k, none⟩ = some (.int .u64 z) := by
  match k, hk with
  | 0, _ => exact ⟨k0, by simp [World.cell?, h]⟩
  | 1, _ => exact ⟨k1, by simp [World.cell?, h]⟩
  | 2, _ => exact ⟨k2, by simp [World.cell?, h]⟩
set_option maxRecDepth 100000 in
set_option maxHeartbeats 4000000 in
theorem more_walk (m : List Int) (v : Value) (more key id k : Int) (w : World) (hs : Ints w v m) (hm : ∀ x ∈ m, I64 x) (ha : I64 more) (hid : I64 id) (hk : I64 k) :
    Calls Try.prog 4 #[v, .int .i64 more, .int .u64 key, .int .i64 id, .int .i64 k] w fun e w' => e = .returned (.bool true) ∧ Ext w w' := by
  obtain ⟨i0, hi, hz0, hz1, hz2⟩ := info_parts' Try.infoI
  have HS := hide hs
  have HM := hide hm; clear hm
  obtain ⟨_, a, cap, rfl⟩ := hs.shape
  clear hs
  obtain ⟨p, hp, hp1, hp6⟩ := madeP_nat m
  have hlen := madeI_len m
  have hbd := madeI_bd m
  have hmade : ∀ u, Ints u (.slice a m.length cap) m → Calls Try.prog 13 #[.slice a m.length cap] u fun e w' => ∃ v', e = .returned (.tuple #[v', .int .i64 p]) ∧ w'.ownsRow u.heap.size 3 1 v' (madeI m).length ((madeI m).flatMap encI) ∧ Ext u w' := fun u hu =>
    (made_any m _ u hu HM.out).mono (by rintro e w' ⟨v', rfl, ho, he⟩; exact ⟨v', by rw [hp], ho, he⟩)
  have HMD := hide hmade
  have b1 := around_bd more 90 (by omega)
  have har : ∀ u : World, Calls Try.prog 14 #[.int .i64 more, .int .i64 90] u fun e w' => e = .returned (.int .i64 (around more 90)) ∧ u = w' := fun u => around_any more 90 u ha (by omega)
  obtain ⟨a1, e1⟩ : ∃ a, around more 90 = a := ⟨_, rfl⟩
  rw [e1] at har b1
  have HAR := hide har
  obtain ⟨I, hI⟩ : ∃ I, madeI m = I := ⟨_, rfl⟩
  have hlen2 : I.length ≤ 8 := by rw [← hI]; exact hlen
  have hnI : (10 + a1) ∉ I := by rw [← hI]; intro h; have := hbd _ h; omega
  have HNI := hide hnI
  have HI := hide hI
  clear hmade har e1 hp hI hlen hbd hnI
  go_enter Try.func4, Try.ntmps4
  go_wp2_with fail
  refine (HMD.out _ HS.out).mono ?_
  rintro e w1 ⟨v1, rfl, h1, E1⟩
  rw [HI.out] at h1
  have hsrc := srcI_own h1 (by omega)
  have hin1 := own_ints h1 (by omega)
  obtain ⟨_, x1, c1, rfl⟩ := hin1.shape
  have H1 := hide hin1
  have HSRC := hide hsrc
  clear h1 hin1 hsrc
  go_wp2_with fail
  refine (HAR.out _).mono ?_
  rintro e w1' ⟨rfl, rfl⟩
  go_wp2_with fail
  refine (new_any I _ p _ H1.out (by omega) (by omega)).mono ?_
  rintro e w2 ⟨r2, rfl, hr2, E2⟩
  have H2 := hide (H1.out.ext E2)
  have HSR2 := hide (HSRC.out.ext E2)
  have e0 : Ext w2 (w2.alloc (.cells #[] 3)).drew := ((Below.refl _ w2).alloc (Nat.le_refl _) _).drew
  go_wp2_with (first
    | (at_builtin; refine wpList_append_src (by rfl) _ _ 22 (by rfl) w2.heap.size 3 i0 8 Try.underlying22 hi hz0 hz1 hz2 (.slice (some ⟨w2.heap.size, 0, none⟩) 0 0) 0 [] (by rfl) (World.ownsRow_made (size := 1) (e := 3) w2 #[] 0 (Nat.le_refl _) (by decide) (by rfl)) _ I (by rfl) (HSR2.out.ext ((Below.refl _ w2).alloc (Nat.le_refl _) _)) (by unfold maxLen; omega) (by omega) (by simp) ?_; intro v3 w3 hown3 hgrow3; have hb3 : w2.heap.size ≤ w3.heap.size := Nat.le_trans (by simp) hgrow3.size)
    | (at_builtin; refine wpList_append_own _ (by rfl) _ _ 22 (by rfl) w2.heap.size 3 i0 (.int .i64 0) 1 8 Try.underlying22 hi hz0 hz1 hz2 rfl (by decide) v3 (0 + I.length) _ (by rfl) (hown3.alloc _) ⟨w3.heap.size, 0, none⟩ 1 1 [.int .i64 (10 + a1)] (by rfl) (by rfl) (cells_new w3 [.int .i64 (10 + a1)] 3) (by simp [Value.oneCell']) (by unfold maxLen; omega) (by omega) (by simp; omega) ?_; intro v4 w4 hown4 hgrow4 _))
  have E3 : Ext w2 w3 := Below.grown (Below.alloc (Below.refl _ w2) (Nat.le_refl _) _) hgrow3 (by simp) (fun r hr => by simp [Value.ownBlock] at hr; omega)
  have E4 : Ext w2 w4 := Below.grown (Below.alloc E3 hb3 _) hgrow4 (by simp; omega) (fun r hr => by have := (hown3.lt r hr).1; omega)
  have hj4 : w4.ownsRow w2.heap.size 3 1 v4 (I ++ [10 + a1]).length ((I ++ [10 + a1]).flatMap encI) := by
    rw [List.nil_append] at hown4
    rw [List.length_append, List.flatMap_append]
    have e : I.length + [10 + a1].length = 0 + I.length + 1 := by simp
    rw [e]; exact hown4
  have hJl : (I ++ [10 + a1]).length ≤ 9 := by simp; omega
  have hem := ends_more I (10 + a1) HNI.out
  have hmk := fun key => more_k key p (by omega) I (10 + a1) HNI.out
  have hin4 := own_ints hj4 (by omega)
  obtain ⟨J, hJ⟩ : ∃ J, I ++ [10 + a1] = J := ⟨_, rfl⟩
  rw [hJ] at hin4 hJl hem hmk
  have HMK := hide hmk
  have HEM := hide hem
  clear hj4 hown4 hown3 hgrow4 hgrow3 hJ hmk hem
  obtain ⟨_, x4, c4, rfl⟩ := hin4.shape
  have HIN4 := hide hin4
  clear hin4
  go_wp2_with fail
  refine (new_any J _ p _ HIN4.out (by omega) (by omega)).mono ?_
  rintro e w5 ⟨r5, rfl, hr5, E5⟩
  go_wp2_with fail
  refine (key_any key id k k _ hid hk hk).mono ?_
  rintro e w5' ⟨z, rfl, rfl⟩
  go_wp2_with fail
  refine (point_any (10 + a1) 0 _).mono ?_
  rintro e w5' ⟨q, rfl, rfl⟩
  have hr6 := ((hr2.ext E4).ext E5)
  have HR2 := hide hr6
  have HR5 := hide hr5
  have e6 : Ext w5 (w5.alloc (.cells #[.int .u64 key, .int .u64 z, .int .u64 q] 23)) := (Below.refl _ w5).alloc (Nat.le_refl _) _
  have hb6 := heap_alloc_new w5 (.cells #[.int .u64 key, .int .u64 z, .int .u64 q] 23)
  have HB6 := hide hb6
  clear hr5 hr6 hr2 hb6
  go_wp2_with fail
  go_loopw [17] (fun i wr => ∃ k : Nat, k ≤ 3 ∧ i = .int .i64 k ∧ Ext (w5.alloc (.cells #[.int .u64 key, .int .u64 z, .int .u64 q] 23)) wr)
    (fun i _ => 3 - (intOf i).toNat)
  case atStart => exact ⟨0, Nat.zero_le _, rfl, Below.refl _ _⟩
  case round =>
    obtain ⟨k, hk, rfl, hext⟩ := hrel
    have hbk : wr.heap[w5.heap.size]? = some (.cells #[.int .u64 key, .int .u64 z, .int .u64 q] 23 (0, 0)) := (hext.block _ (by simp)).trans HB6.out
    have hrx := ((HR2.out.ext e6).ext hext)
    have hry := ((HR5.out.ext e6).ext hext)
    by_cases hlt : k < 3
    · obtain ⟨y, hc⟩ := three_cell hbk k hlt
      obtain ⟨b, hob, hcase⟩ := HMK.out y
      have hof1 : ∀ u : World, RingAt u r2 (ends I).length (pointsOf p I) → Calls Try.prog 22 #[r2, .int .u64 y] u fun e w' => e = .returned (.tuple #[.int .i64 ((ofK y p I).getD 0), .bool (ofK y p I).isSome]) ∧ Ext u w' := fun u h => of_any y h
      have hof2 : ∀ u : World, RingAt u r5 (ends J).length (pointsOf p J) → Calls Try.prog 22 #[r5, .int .u64 y] u fun e w' => e = .returned (.tuple #[.int .i64 b, .bool true]) ∧ Ext u w' := fun u h => by
        have := of_any y h
        rwa [hob] at this
      have HX := hide hrx
      have HY := hide hry
      have H1 := hide hof1
      have H2 := hide hof2
      have hc0 := hc
      clear hbk hrx hry hof1 hof2 hob
      have hrel2 : ∀ wz : World, Ext (w5.alloc (.cells #[.int .u64 key, .int .u64 z, .int .u64 q] 23)) wz → wz.cell? ⟨w5.heap.size, k, none⟩ = some (.int .u64 y) := fun wz hz => by
        have hbz : wz.heap[w5.heap.size]? = some (.cells #[.int .u64 key, .int .u64 z, .int .u64 q] 23 (0, 0)) := (hz.block _ (by simp)).trans HB6.out
        have hbw : wr.heap[w5.heap.size]? = some (.cells #[.int .u64 key, .int .u64 z, .int .u64 q] 23 (0, 0)) := (hext.block _ (by simp)).trans HB6.out
        simp only [World.cell?, hbz, hbw] at hc ⊢
        exact hc
      have HREL := hide hrel2
      clear hrel2 hc
      rcases hcase with ⟨h1, h2⟩ | h1 | ⟨y0, h1, h2, h3⟩
      · rw [h1] at H1
        subst h2
        clear h1
        go_wp2_with fail
        refine (H1.out _ HX.out).mono ?_
        rintro e w7 ⟨rfl, E7⟩
        have hc7 := HREL.out _ (hext.trans E7)
        go_wp2_with fail
        refine (H2.out _ (HY.out.ext E7)).mono ?_
        rintro e w8 ⟨rfl, E8⟩
        go_wp2
        go_roundw
        case rel => exact ⟨k + 1, hlt, by go_num, hext.trans (E7.trans E8)⟩
        case measure => simp [intOf]; omega
      · rw [h1] at H1
        clear h1
        go_wp2_with fail
        refine (H1.out _ HX.out).mono ?_
        rintro e w7 ⟨rfl, E7⟩
        have hc7 := HREL.out _ (hext.trans E7)
        go_wp2_with fail
        refine (H2.out _ (HY.out.ext E7)).mono ?_
        rintro e w8 ⟨rfl, E8⟩
        go_wp2
        go_roundw
        case rel => exact ⟨k + 1, hlt, by go_num, hext.trans (E7.trans E8)⟩
        case measure => simp [intOf]; omega
      · rw [h1] at H1
        subst h2
        clear h1
        go_wp2_with fail
        refine (H1.out _ HX.out).mono ?_
        rintro e w7 ⟨rfl, E7⟩
        have hc7 := HREL.out _ (hext.trans E7)
        go_wp2_with fail
        refine (H2.out _ (HY.out.ext E7)).mono ?_
        rintro e w8 ⟨rfl, E8⟩
        go_wp2
        go_roundw
        case rel => exact ⟨k + 1, hlt, by go_num, hext.trans (E7.trans E8)⟩
        case measure => simp [intOf]; omega
    · obtain rfl : k = 3 := by omega
      have hlen := HEM.out
      have hle := hrx.1
      obtain ⟨N, hN⟩ : ∃ N, (ends I).length = N := ⟨_, rfl⟩
      obtain ⟨M, hM⟩ : ∃ M, (ends J).length = M := ⟨_, rfl⟩
      rw [hN, hM] at hlen
      rw [hN] at hrx hle
      rw [hM] at hry
      subst hlen
      go_wp2_with fail
      refine (len_any hry).mono ?_
      rintro e w9 ⟨rfl, rfl⟩
      go_wp2_with fail
      refine (len_any hrx).mono ?_
      rintro e w9 ⟨rfl, rfl⟩
      go_wp2_with fail
      refine (lives_any _).mono ?_
      rintro e w9 ⟨rfl, E9⟩
      go_wp2_with fail
      go_ret
      exact ⟨rfl, E1.trans (E2.trans (E4.trans (E5.trans (e6.trans (hext.trans E9)))))⟩
end Go.Proofs.Ytfmoiepjbkhjfaa
