/- RingNames: the walk. -/
import Derived.Test.YtfmoiepjbkhjfaaRingLs
import Derived.Test.YtfmoiepjbkhjfaaApp
namespace Go.Proofs.Ytfmoiepjbkhjfaa
open Go.ChangeShapes Go.WideShapes Go.ChangeAt Go.RowKit Go.Sort Go.Shelf
/-- 'append' of a slice that may be nil to a row of the call's own, at a step of a region that draws its order -/
theorem step_append_src {P : Program} {w : World} {ops : Array Oper} {o : Oper} {a : Act} {K : Act → World → Prop} {Q : Exit → Act → World → Prop} {E : Prop} (hgd : o.guard = none) (s x : Operand) (t : TypeId)
    (ho : o.op = .call { callee := .builtin .append, args := #[s, x], argTypes := #[t, t] })
    (base : Nat) (e : TypeId) (i : TypeInfo) (bytes : Nat) (ht : P.underlying t = some (.slice e)) (hi : P.info? e = some i) (hz : i.zero = some (.int .i64 0))
    (hsize : i.size = 1) (hby : i.bytes = bytes)
    (v : Value) (n : Nat) (xs : List Value) (hs : a.eval s = v) (hown : w.ownsRow base e 1 v n xs)
    (xv : Value) (I : List Int) (hx : a.eval x = xv) (hsrc : SrcI w xv I)
    (h63 : n + I.length ≤ maxLen) (hbytes : (n + I.length) * bytes ≤ 140737488355328) (hbase : base ≤ w.heap.size)
    (h : ∀ v' w', w'.ownsRow base e 1 v' (n + I.length) (xs ++ I.flatMap encI) → w.grownBy w' v.ownBlock → K (a.put o.dst v') w') :
    if Region.wanted o (yielded ops a.tmps) = true then Oper.wp P o a w K Q else E := by
  rcases hsrc with ⟨rfl, rfl⟩ | ⟨ad, c, rfl, hI⟩
  · have hw : Region.wanted o (yielded ops a.tmps) = true := by simp [Region.wanted, hgd]
    rw [if_pos hw]
    have hr := run_append_owned_none (P := P) (w := w) base t o.type e i 1 ht hi v n xs hown
    unfold Oper.wp execOp
    simp only [ho, resolve, invoke, builtin, Sem.run_bind, Sem.run_pure, Result.andThen_ok, List.map_toArray, List.map_cons, List.map_nil, hs, hx, hr]
    exact h v w (by simpa using hown) ⟨rfl, rfl, rfl, Nat.le_refl _, fun _ _ _ => rfl⟩
  · exact step_append_own hgd s x t ho base e i (.int .i64 0) 1 bytes ht hi hz hsize hby rfl (by decide) v n xs hs hown ad I.length c (I.flatMap encI) hx (length_flatMap_enc encI_len I) (hI.news encI_len (by decide))
      (by rw [flat_encI]; intro u hu; obtain ⟨y, _, rfl⟩ := List.mem_map.1 hu; rfl) h63 hbytes hbase (fun v' w' h1 h2 _ => h v' w' h1 h2)
theorem turned_mem (I : List Int) (k : Nat) (x : Int) : x ∈ I.drop k ++ I.take k ↔ x ∈ I := by
  rw [List.mem_append, or_comm, ← List.mem_append, List.take_append_drop]
theorem turned_mem2 (I : List Int) (k : Nat) (y : Int) (hy : y ∈ I) (x : Int) : x ∈ (I.drop k ++ I.take k) ++ [y] ↔ x ∈ I := by
  rw [List.mem_append, turned_mem]; simp only [List.mem_singleton]
  exact ⟨fun h => h.elim id (fun e => e ▸ hy), .inl⟩
theorem points_congr' {a b : List Int} (p : Nat) (h : ∀ x, x ∈ a ↔ x ∈ b) : pointsOf p a = pointsOf p b := by unfold pointsOf; rw [ends_congr h]
/-- New of numbers that are the same but for their row, and for one told twice -/
theorem new_same (I J : List Int) (v : Value) (p : Nat) (w : World) (hs : Ints w v J) (hp : 1 ≤ p ∧ p ≤ 64) (hl : J.length ≤ 1000) (h : ∀ x, x ∈ J ↔ x ∈ I) :
    Calls Try.prog 15 #[v, .int .i64 p] w fun e w' => ∃ r, e = .returned r ∧ RingAt w' r (ends I).length (pointsOf p I) ∧ Ext w w' := by
  have := new_any J v p w hs hp hl
  rwa [ends_congr h, points_congr' p h] at this
set_option maxRecDepth 100000 in
set_option maxHeartbeats 4000000 in
theorem names_walk (m : List Int) (v : Value) (turn key : Int) (w : World) (hs : Ints w v m) (hm : ∀ x ∈ m, I64 x) (ha : I64 turn) :
    Calls Try.prog 5 #[v, .int .i64 turn, .int .u64 key] w fun e w' => e = .returned (.bool true) ∧ Ext w w' := by
  obtain ⟨i0, hi, hz0, hz1, hz2⟩ := info_parts' Try.infoI
  have HS := hide hs
  have HM := hide hm; clear hm
  obtain ⟨_, a, cap, rfl⟩ := hs.shape
  clear hs
  obtain ⟨p, hp, hp1, hp6⟩ := madeP_nat m
  have hlen := madeI_len m
  have hmade : ∀ u, Ints u (.slice a m.length cap) m → Calls Try.prog 13 #[.slice a m.length cap] u fun e w' => ∃ v', e = .returned (.tuple #[v', .int .i64 p]) ∧ w'.ownsRow u.heap.size 3 1 v' (madeI m).length ((madeI m).flatMap encI) ∧ Ext u w' := fun u hu =>
    (made_any m _ u hu HM.out).mono (by rintro e w' ⟨v', rfl, ho, he⟩; exact ⟨v', by rw [hp], ho, he⟩)
  have HMD := hide hmade
  obtain ⟨I, hI⟩ : ∃ I, madeI m = I := ⟨_, rfl⟩
  have hlen2 : I.length ≤ 8 := by rw [← hI]; exact hlen
  have HI := hide hI
  have b1 := around_bd turn (I.length + 1) (by omega)
  have har : ∀ u : World, Calls Try.prog 14 #[.int .i64 turn, .int .i64 (I.length + 1)] u fun e w' => e = .returned (.int .i64 (around turn (I.length + 1))) ∧ u = w' := fun u => around_any turn (I.length + 1) u ha (by omega)
  obtain ⟨k, hk⟩ : ∃ k : Nat, around turn (I.length + 1) = k := ⟨(around turn (I.length + 1)).toNat, by omega⟩
  rw [hk] at har b1
  have HAR := hide har
  clear hmade har hk hp hI hlen
  go_enter Try.func5, Try.ntmps5
  go_wp2_with fail
  refine (HMD.out _ HS.out).mono ?_
  rintro e w1 ⟨v1, rfl, h1, E1⟩
  rw [HI.out] at h1
  have hin1 := own_ints h1 (by omega)
  have hsh : (v1 = .slice none 0 0 ∧ I = []) ∨ ∃ b c, v1 = .slice (some ⟨b, 0, none⟩) I.length c ∧ I.length ≤ c ∧ (c : Int) ≤ 9223372036854775807 := by
    rcases h1.2 with ⟨rfl, h0⟩ | ⟨g, c, cur, rfl, _, _, hc, hcm, _⟩
    · exact .inl ⟨rfl, List.eq_nil_of_length_eq_zero h0⟩
    · exact .inr ⟨g, c, rfl, hc, by unfold maxLen at hcm; omega⟩
  have H1 := hide hin1
  clear h1 hin1
  rcases hsh with ⟨rfl, rfl⟩ | ⟨b, c, rfl, hcl, hcm⟩
  · obtain rfl : k = 0 := by simp at b1; omega
    go_wp2_with fail
    refine (HAR.out _).mono ?_
    rintro e w1' ⟨rfl, rfl⟩
    go_wp2_with fail
    go_region_law (first
      | (refine step_append_src (by rfl) _ _ _ (by rfl) w1.heap.size 3 i0 8 Try.underlying22 hi hz0 hz1 hz2 (.slice (some ⟨w1.heap.size, 0, none⟩) 0 0) 0 [] (by rfl) ((World.ownsRow_made (size := 1) (e := 3) w1 #[] 0 (Nat.le_refl _) (by decide) (by rfl)).drew) _ [] (by rfl) (.inl ⟨rfl, rfl⟩) (by unfold maxLen; simp) (by simp) (by simp) ?_; intro v3 w3 hown3 hgrow3; have hb3 : w1.heap.size ≤ w3.heap.size := Nat.le_trans (by simp) hgrow3.size)
      | (refine step_append_src (by rfl) _ _ _ (by rfl) w1.heap.size 3 i0 8 Try.underlying22 hi hz0 hz1 hz2 v3 _ _ (by rfl) hown3 _ [] (by rfl) (.inl ⟨rfl, rfl⟩) (by unfold maxLen; simp) (by simp) hb3 ?_; intro v4 w4 hown4 hgrow4))
    have e4 : Ext w1 w4 := Below.grown (Below.grown ((Below.alloc (Below.refl _ w1) (Nat.le_refl _) _).drew) hgrow3 (by simp) (fun r hr => by simp [Value.ownBlock] at hr; omega)) hgrow4 hb3 (fun r hr => (hown3.lt r hr).1)
    have hj : Ints w4 v4 [] := own_ints (base := w1.heap.size) (n := 0) (by simpa using hown4) (by simp)
    have HJ := hide hj
    have HJL := hide (show ([] : List Int).length ≤ 1000 by simp)
    have HE4 := hide e4
    clear hj e4 hown4 hgrow4 hown3 hgrow3
    go_wp2_with fail
    refine (new_any [] _ p _ (H1.out.ext HE4.out) (by omega) (by simp)).mono ?_
    rintro e w5 ⟨r5, rfl, hr5, E5⟩
    go_wp2_with fail
    refine (new_same [] [] _ p _ (HJ.out.ext E5) (by omega) HJL.out (fun x => Iff.rfl)).mono ?_
    rintro e w6 ⟨r6, rfl, hr6, E6⟩
    have HR5 := hide (hr5.ext E6)
    have HR6 := hide hr6
    clear hr5 hr6
    go_wp2_with fail
    refine (row_ints key (by omega) HR5.out).mono ?_
    rintro e w7 ⟨v7, rfl, h7, E7⟩
    go_wp2_with fail
    refine (row_ints key (by omega) (HR6.out.ext E7)).mono ?_
    rintro e w8 ⟨v8, rfl, h8, E8⟩
    have hr5 := ((HR5.out.ext E7).ext E8)
    have hr6 := ((HR6.out.ext E7).ext E8)
    go_wp2_with fail
    refine (sameInts_any _ _ _ _ _ (h7.ext E8) h8).mono ?_
    rintro e w9 ⟨rfl, E9⟩
    rw [sameInts_self]
    have hrl := (hr5.ext E9).1
    go_wp2_with fail
    refine (len_any (hr5.ext E9)).mono ?_
    rintro e w9' ⟨rfl, rfl⟩
    go_wp2_with fail
    refine (len_any (hr6.ext E9)).mono ?_
    rintro e w9' ⟨rfl, rfl⟩
    go_wp2_with fail
    refine (lives_any _).mono ?_
    rintro e w10 ⟨rfl, E10⟩
    go_wp2_with fail
    go_ret
    exact ⟨rfl, E1.trans ((HE4.out).trans (E5.trans (E6.trans (E7.trans (E8.trans (E9.trans E10))))))⟩
  · have hkl : k ≤ I.length := by omega
    have hkc : k ≤ c := by omega
    go_wp2_with fail
    refine (HAR.out _).mono ?_
    rintro e w1' ⟨rfl, rfl⟩
    go_wp2_with fail
    have hd := H1.out.drop k hkl
    have htk := H1.out.take k hkl
    have hdl : (I.drop k).length = I.length - k := List.length_drop
    have htl : (I.take k).length = k := by rw [List.length_take]; omega
    have hsd : SrcI w1 (.slice (if c = k then some ⟨b, 0, none⟩ else some ⟨b, k, none⟩) (I.length - k) (c - k)) (I.drop k) := by
      by_cases hck : c = k
      · have hn : I.drop k = [] := List.eq_nil_of_length_eq_zero (by rw [hdl]; omega)
        rw [if_pos hck, hn]
        have e0 : I.length - k = 0 := by omega
        rw [e0]
        exact .inr ⟨_, _, rfl, by simp, some ⟨b, 0, none⟩, c - k, rfl, by simp; omega, fun i x hi => by simp at hi⟩
      · rw [if_neg hck]
        have e : 0 + k * 1 = k := by omega
        rw [← hdl] at hd ⊢
        rw [e] at hd
        exact .inr ⟨_, _, rfl, hd⟩
    have hst : SrcI w1 (.slice (some ⟨b, 0, none⟩) k c) (I.take k) := by
      refine .inr ⟨⟨b, 0, none⟩, c, by rw [htl], ?_⟩
      rw [htl]; exact htk
    have e0 : Ext w1 (w1.alloc (.cells #[] 3)).drew := ((Below.refl _ w1).alloc (Nat.le_refl _) _).drew
    have HSD := hide (hsd.ext e0)
    have HST := hide hst
    have hlen8 : (I.length : Int) ≤ 8 := by omega
    have hki : (k : Int) ≤ I.length := by omega
    have hci : (I.length : Int) ≤ c := by omega
    clear hd htk hsd hst
    go_region_law (first
      | (refine step_append_src (by rfl) _ _ _ (by rfl) w1.heap.size 3 i0 8 Try.underlying22 hi hz0 hz1 hz2 (.slice (some ⟨w1.heap.size, 0, none⟩) 0 0) 0 [] (by rfl) ((World.ownsRow_made (size := 1) (e := 3) w1 #[] 0 (Nat.le_refl _) (by decide) (by rfl)).drew) _ (I.drop k) (by rfl) HSD.out (by rw [hdl]; unfold maxLen; omega) (by rw [hdl]; omega) (by simp) ?_; intro v3 w3 hown3 hgrow3; have hb3 : w1.heap.size ≤ w3.heap.size := Nat.le_trans (by simp) hgrow3.size; have e3 : Ext w1 w3 := Below.grown ((Below.alloc (Below.refl _ w1) (Nat.le_refl _) _).drew) hgrow3 (by simp) (fun r hr => by simp [Value.ownBlock] at hr; omega))
      | (refine step_append_src (by rfl) _ _ _ (by rfl) w1.heap.size 3 i0 8 Try.underlying22 hi hz0 hz1 hz2 v3 _ _ (by rfl) hown3 _ (I.take k) (by rfl) (HST.out.ext e3) (by rw [hdl, htl]; unfold maxLen; omega) (by rw [hdl, htl]; omega) hb3 ?_; intro v4 w4 hown4 hgrow4))
    have e4 : Ext w1 w4 := Below.grown e3 hgrow4 hb3 (fun r hr => (hown3.lt r hr).1)
    have hjl : (I.drop k ++ I.take k).length = I.length := by rw [List.length_append, hdl, htl]; omega
    have hj : w4.ownsRow w1.heap.size 3 1 v4 (I.drop k ++ I.take k).length ((I.drop k ++ I.take k).flatMap encI) := by
      rw [List.flatMap_append, hjl]
      have e : 0 + (I.drop k).length + (I.take k).length = I.length := by rw [hdl, htl]; omega
      rw [e, List.nil_append] at hown4
      exact hown4
    have HE4 := hide e4
    have hm2 := turned_mem2 I k
    have hm1 := turned_mem I k
    obtain ⟨J, hJ⟩ : ∃ J, I.drop k ++ I.take k = J := ⟨_, rfl⟩
    rw [hJ] at hj hjl
    rw [hJ] at hm1
    simp only [hJ] at hm2
    have hji := own_ints hj (by omega)
    have HJ := hide hji
    have HM1 := hide hm1
    have HM2 := hide hm2
    have hb4 : w1.heap.size ≤ w4.heap.size := e4.size
    clear e3 e4 hown4 hgrow4 hown3 hgrow3 hJ hji hm1 hm2
    generalize (if c = k then some ⟨b, 0, none⟩ else some ⟨b, k, none⟩ : Option Addr) = xd
    rw [hjl] at hj
    obtain ⟨a4, c4, rfl⟩ := own_shape hj
    by_cases h0 : 0 < I.length
    · have hlt : (0 : Int) < I.length := by omega
      have b2 := around_bd turn I.length (by omega)
      have har2 : ∀ u : World, Calls Try.prog 14 #[.int .i64 turn, .int .i64 I.length] u fun e w' => e = .returned (.int .i64 (around turn I.length)) ∧ u = w' := fun u => around_any turn I.length u ha (by omega)
      obtain ⟨q, hq⟩ : ∃ q : Nat, around turn I.length = q := ⟨(around turn I.length).toNat, by omega⟩
      rw [hq] at har2 b2
      have hql : q < I.length := by omega
      obtain ⟨b', off', eb, hbb, hc⟩ := ints_at (H1.out.ext HE4.out) q hql
      cases eb
      rw [Nat.zero_add] at hc
      have hmem : I[q] ∈ I := List.getElem_mem hql
      obtain ⟨y, hy⟩ : ∃ y, I[q] = y := ⟨_, rfl⟩
      rw [hy] at hc hmem
      have HMEM := hide hmem
      have HAR2 := hide har2
      clear har2 hq hy hmem
      go_wp2_with fail
      refine (HAR2.out _).mono ?_
      rintro e w4' ⟨rfl, rfl⟩
      go_wp2_with (at_builtin; refine wpList_append_own _ (by rfl) _ _ 22 (by rfl) w1.heap.size 3 i0 (.int .i64 0) 1 8 Try.underlying22 hi hz0 hz1 hz2 rfl (by decide) (.slice a4 I.length c4) I.length _ (by rfl) (hj.alloc _) ⟨w4.heap.size, 0, none⟩ 1 1 [.int .i64 y] (by rfl) (by rfl) (cells_new w4 [.int .i64 y] 3) (by simp [Value.oneCell']) (by unfold maxLen; omega) (by omega) (by simp; omega) ?_; intro v4' w4' hown4' hgrow4' _)
      have e5 : Ext w1 w4' := Below.grown (Below.alloc HE4.out hb4 _) hgrow4' (by simp; omega) (fun r hr => by have := (hj.lt r hr).1; omega)
      have hj5 : Ints w4' v4' (J ++ [y]) := by
        refine own_ints (base := w1.heap.size) (n := I.length + 1) ?_ (by simp; omega)
        rw [List.flatMap_append]; exact hown4'
      have HJ5 := hide hj5
      have HJL := hide (show (J ++ [y]).length ≤ 1000 by simp; omega)
      have HM3 := hide (HM2.out y HMEM.out)
      have HE5 := hide e5
      clear hj5 e5 hown4' hgrow4' hj hc
      go_wp2_with fail
      refine (new_any I _ p _ (H1.out.ext HE5.out) (by omega) (by omega)).mono ?_
      rintro e w5 ⟨r5, rfl, hr5, E5⟩
      go_wp2_with fail
      refine (new_same I (J ++ [y]) _ p _ (HJ5.out.ext E5) (by omega) HJL.out HM3.out).mono ?_
      rintro e w6 ⟨r6, rfl, hr6, E6⟩
      have HR5 := hide (hr5.ext E6)
      have HR6 := hide hr6
      clear hr5 hr6
      go_wp2_with fail
      refine (row_ints key (by omega) HR5.out).mono ?_
      rintro e w7 ⟨v7, rfl, h7, E7⟩
      go_wp2_with fail
      refine (row_ints key (by omega) (HR6.out.ext E7)).mono ?_
      rintro e w8 ⟨v8, rfl, h8, E8⟩
      have hr5 := ((HR5.out.ext E7).ext E8)
      have hr6 := ((HR6.out.ext E7).ext E8)
      go_wp2_with fail
      refine (sameInts_any _ _ _ _ _ (h7.ext E8) h8).mono ?_
      rintro e w9 ⟨rfl, E9⟩
      rw [sameInts_self]
      have hrl := (hr5.ext E9).1
      go_wp2_with fail
      refine (len_any (hr5.ext E9)).mono ?_
      rintro e w9' ⟨rfl, rfl⟩
      go_wp2_with fail
      refine (len_any (hr6.ext E9)).mono ?_
      rintro e w9' ⟨rfl, rfl⟩
      go_wp2_with fail
      refine (lives_any _).mono ?_
      rintro e w10 ⟨rfl, E10⟩
      go_wp2_with fail
      go_ret
      exact ⟨rfl, E1.trans ((HE5.out).trans (E5.trans (E6.trans (E7.trans (E8.trans (E9.trans E10))))))⟩
    · have hI0 : I = [] := List.eq_nil_of_length_eq_zero (by omega)
      subst hI0
      have HJL := hide (show J.length ≤ 1000 by omega)
      clear hj
      go_wp2_with fail
      refine (new_any [] _ p _ (H1.out.ext HE4.out) (by omega) (by simp)).mono ?_
      rintro e w5 ⟨r5, rfl, hr5, E5⟩
      go_wp2_with fail
      refine (new_same [] J _ p _ (HJ.out.ext E5) (by omega) HJL.out HM1.out).mono ?_
      rintro e w6 ⟨r6, rfl, hr6, E6⟩
      have HR5 := hide (hr5.ext E6)
      have HR6 := hide hr6
      clear hr5 hr6
      go_wp2_with fail
      refine (row_ints key (by omega) HR5.out).mono ?_
      rintro e w7 ⟨v7, rfl, h7, E7⟩
      go_wp2_with fail
      refine (row_ints key (by omega) (HR6.out.ext E7)).mono ?_
      rintro e w8 ⟨v8, rfl, h8, E8⟩
      have hr5 := ((HR5.out.ext E7).ext E8)
      have hr6 := ((HR6.out.ext E7).ext E8)
      go_wp2_with fail
      refine (sameInts_any _ _ _ _ _ (h7.ext E8) h8).mono ?_
      rintro e w9 ⟨rfl, E9⟩
      rw [sameInts_self]
      have hrl := (hr5.ext E9).1
      go_wp2_with fail
      refine (len_any (hr5.ext E9)).mono ?_
      rintro e w9' ⟨rfl, rfl⟩
      go_wp2_with fail
      refine (len_any (hr6.ext E9)).mono ?_
      rintro e w9' ⟨rfl, rfl⟩
      go_wp2_with fail
      refine (lives_any _).mono ?_
      rintro e w10 ⟨rfl, E10⟩
      go_wp2_with fail
      go_ret
      exact ⟨rfl, E1.trans ((HE4.out).trans (E5.trans (E6.trans (E7.trans (E8.trans (E9.trans E10))))))⟩
end Go.Proofs.Ytfmoiepjbkhjfaa
