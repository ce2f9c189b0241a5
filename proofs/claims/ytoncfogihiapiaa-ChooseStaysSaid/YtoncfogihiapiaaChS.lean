/- ChooseStays: the walk. -/
import Derived.Test.YtoncfogihiapiaaChQ
import Derived.Test.YtoncfogihiapiaaApp
import Derived.Test.YtoncfogihiapiaaChH
namespace Go.Proofs.Ytoncfogihiapiaa
open Go.ChangeShapes Go.WideShapes Go.ChangeAt Go.RowKit Go.Maps Go.Shelf
/-- 'append' of a slice that may be nil to a row of the call's own, at a step of a region that draws its order -/
theorem step_append_src {P : Program} {w : World} {ops : Array Oper} {o : Oper} {a : Act} {K : Act → World → Prop} {Q : Exit → Act → World → Prop} {E : Prop} (hgd : o.guard = none) (s x : Operand) (t : TypeId)
    (ho : o.op = .call { callee := .builtin .append, args := #[s, x], argTypes := #[t, t] })
    (base : Nat) (e : TypeId) (i : TypeInfo) (bytes : Nat) (ht : P.underlying t = some (.slice e)) (hi : P.info? e = some i) (hz : i.zero = some (.int .i64 0))
    (hsize : i.size = 1) (hby : i.bytes = bytes)
    (v : Value) (n : Nat) (xs : List Value) (hs : a.eval s = v) (hown : w.ownsRow base e 1 v n xs)
    (xv : Value) (I : List Int) (hx : a.eval x = xv) (hsrc : SrcI w xv I)
    (h63 : n + I.length ≤ maxLen) (hbytes : (n + I.length) * bytes ≤ 140737488355328) (hbase : base ≤ w.heap.size)
    (h : ∀ v' w', w'.ownsRow base e 1 v' (n + I.length) (xs ++ I.flatMap encI) → w.grownBy w' v.ownBlock → K (a.put o.dst v') w') :
    if Region.wanted o (yielded ops a.tmps) = true then Oper.wp P o a w K Q else E := by
  rcases hsrc with ⟨rfl, rfl⟩ | ⟨ad, c, rfl, hI⟩
  · have hw : Region.wanted o (yielded ops a.tmps) = true := by simp [Region.wanted, hgd]
    rw [if_pos hw]
    have hr := run_append_owned_none (P := P) (w := w) base t o.type e i 1 ht hi v n xs hown
    unfold Oper.wp execOp
    simp only [ho, resolve, invoke, builtin, Sem.run_bind, Sem.run_pure, Result.andThen_ok, List.map_toArray, List.map_cons, List.map_nil, hs, hx, hr]
    exact h v w (by simpa using hown) ⟨rfl, rfl, rfl, Nat.le_refl _, fun _ _ _ => rfl⟩
  · exact step_append_own hgd s x t ho base e i (.int .i64 0) 1 bytes ht hi hz hsize hby rfl (by decide) v n xs hs hown ad I.length c (I.flatMap encI) hx (length_flatMap_enc encI_len I) (hI.news encI_len (by decide))
      (by rw [flat_encI]; intro u hu; obtain ⟨y, _, rfl⟩ := List.mem_map.1 hu; rfl) h63 hbytes hbase (fun v' w' h1 h2 _ => h v' w' h1 h2)
theorem own_parts_s {w : World} {base : Nat} {e : TypeId} {v : Value} {n : Nat} {L : List (Int × Int)} (h : w.ownsRow base e 2 v n (L.flatMap encP)) (hl : L.length ≤ 9223372036854775807) : Parts w v L := by
  have hn : L.length = n := by have := h.1; rw [length_flatMap_enc encP_len'] at this; omega
  subst hn
  exact Sl.of_own (enc := encP) (size := 2) encP_len' h hl
set_option maxRecDepth 100000 in
set_option maxHeartbeats 8000000 in
theorem stays_walk (on l m0 m1 : List Int) (v u x0 x1 : Value) (key away : Int) (w : World) (h0 : Ints w v on) (h0i : ∀ x ∈ on, I64 x) (h1 : Ints w u l) (h1i : ∀ x ∈ l, I64 x) (h2 : Ints w x0 m0) (h2i : ∀ x ∈ m0, I64 x) (h3 : Ints w x1 m1) (h3i : ∀ x ∈ m1, I64 x) (h4 : I64 away) :
    Calls Try.prog 6 #[v, u, .agg #[x0, x1], .int .u64 key, .int .i64 away] w fun e w' => e = .returned (.bool true) ∧ Ext w w' := by
  obtain ⟨i0, hi, hz0, hz1, hz2⟩ := info_parts' Try.infoI
  obtain ⟨_, ax, cx, rfl⟩ := h0.shape
  obtain ⟨_, ay, cy, rfl⟩ := h1.shape
  obtain ⟨_, az, cz, rfl⟩ := h2.shape
  obtain ⟨_, aw, cw, rfl⟩ := h3.shape
  have H0 := hide h0
  have H1 := hide h1
  have H2 := hide h2
  have H3 := hide h3
  have H0I := hide h0i
  have H1I := hide h1i
  have H2I := hide h2i
  have H3I := hide h3i
  obtain ⟨p, hp, hp1, hp6⟩ := madeP_nat on
  have hlen := madeI_len on
  have hmade : ∀ u, Ints u (.slice ax on.length cx) on → Calls Try.prog 19 #[.slice ax on.length cx] u fun e w' => ∃ v', e = .returned (.tuple #[v', .int .i64 p]) ∧ w'.ownsRow u.heap.size 3 1 v' (madeI on).length ((madeI on).flatMap encI) ∧ Ext u w' := fun u hu =>
    (made_any on _ u hu H0I.out).mono (by rintro e w' ⟨v', rfl, ho, he⟩; exact ⟨v', by rw [hp], ho, he⟩)
  have HMD := hide hmade
  have hbd := madeI_bd on
  obtain ⟨I, hI⟩ : ∃ I, madeI on = I := ⟨_, rfl⟩
  have hlen2 : I.length ≤ 8 := by rw [← hI]; exact hlen
  have hI64 : ∀ x ∈ I, I64 x := fun x hx => by have := hbd x (by rw [hI]; exact hx); unfold I64; omega
  have HI := hide hI
  have HI64 := hide hI64
  have hsl := someI_len l
  have hnd := someI_nodup l
  obtain ⟨S, hS⟩ : ∃ S, someI l = S := ⟨_, rfl⟩
  rw [hS] at hsl hnd
  have HND := hide hnd
  clear hnd
  have HS := hide hS
  have hl6 : S.length ≤ 6 := hsl.2
  have hl6z : (S.length : Int) ≤ 6 := by omega
  clear h0 h1 h2 h3 h0i h1i h2i h3i hmade hp hlen hbd hI64 hI hsl hS
  have e0 : Ext w (w.alloc (.cells #[.slice az m0.length cz, .slice aw m1.length cw] 28)) := (Below.refl _ w).alloc (Nat.le_refl _) _
  go_enter Try.func6, Try.ntmps6
  go_wp2_with fail
  refine (HMD.out _ (H0.out.ext ((Below.refl _ w).alloc (Nat.le_refl _) _))).mono ?_
  rintro e w1 ⟨v1, rfl, ho1, E1⟩
  rw [HI.out] at ho1
  have hi1 := own_ints ho1 (by omega)
  obtain ⟨_, a1, c1, rfl⟩ := hi1.shape
  have HI1 := hide hi1
  clear ho1 hi1
  have hb0 : ∀ X : World, Ext (w.alloc (.cells #[.slice az m0.length cz, .slice aw m1.length cw] 44)) X → X.cell? ⟨w.heap.size, 0, none⟩ = some (.slice az m0.length cz) ∧ X.cell? ⟨w.heap.size, 1, none⟩ = some (.slice aw m1.length cw) := fun X hX => by
    have h : ∀ o, X.cell? ⟨w.heap.size, o, none⟩ = (w.alloc (.cells #[.slice az m0.length cz, .slice aw m1.length cw] 44)).cell? ⟨w.heap.size, o, none⟩ := fun o => hX.cell (p := ⟨w.heap.size, o, none⟩) (by simp)
    exact ⟨(h 0).trans (by go_simp), (h 1).trans (by go_simp)⟩
  have HB0 := hide hb0
  have HE0 := hide (show Ext w (w.alloc (.cells #[.slice az m0.length cz, .slice aw m1.length cw] 44)) from (Below.refl _ w).alloc (Nat.le_refl _) _)
  obtain ⟨w0, hw0⟩ : ∃ w0, w.alloc (.cells #[.slice az m0.length cz, .slice aw m1.length cw] 44) = w0 := ⟨_, rfl⟩
  rw [hw0] at HB0 HE0 E1
  clear hb0 hw0
  go_wp2_with fail
  refine (some_any l _ _ ((H1.out.ext HE0.out).ext E1) H1I.out).mono ?_
  rintro e w2 ⟨v2, rfl, ho2, E2⟩
  rw [HS.out] at ho2
  have hi2 := own_ints_b ho2 (by omega)
  have hsh : (v2 = .slice none 0 0 ∧ S = []) ∨ ∃ b c, v2 = .slice (some ⟨b, 0, none⟩) S.length c ∧ S.length ≤ c ∧ (c : Int) ≤ 9223372036854775807 := by
    rcases ho2.2 with ⟨rfl, h0⟩ | ⟨g, c, cur, rfl, _, _, hc, hcm, _⟩
    · exact .inl ⟨rfl, List.eq_nil_of_length_eq_zero h0⟩
    · exact .inr ⟨g, c, rfl, hc, by unfold maxLen at hcm; omega⟩
  have HI2 := hide hi2
  clear ho2 hi2
  obtain ⟨a2, c2, hv2⟩ : ∃ a c, v2 = .slice a S.length c := (HI2.out.shape).2
  subst hv2
  have HSH := hide hsh
  clear hsh
  go_wp2_with fail
  refine (new_any I _ p _ (HI1.out.ext E2) (by omega) (by omega)).mono ?_
  rintro e w3 ⟨r3, rfl, hr3, E3⟩
  obtain ⟨Br, rfl⟩ := hr3.shape'
  have HR := hide hr3
  clear hr3
  go_wp2_with fail
  refine (newD_nil 1 _ (by unfold U64; omega)).mono ?_
  rintro e w4 ⟨B, rfl, hd, hB, E4⟩
  clear hd hB
  have E04 := E1.trans (E2.trans (E3.trans E4))
  obtain ⟨hm0, hm1⟩ := HB0.out _ E04
  have HE04 := hide E04
  have HRx := hide (HR.out.ext E4)
  have HI2x := hide (HI2.out.ext (E3.trans E4))
  clear E1 E2 E3 E4 E04
  go_wp2_with fail
  refine (loads12_any m0 _ _ ((H2.out.ext HE0.out).ext HE04.out) H2I.out).mono ?_
  rintro e w5 ⟨v5, rfl, ho5, E5⟩
  have hp5 := own_parts_s ho5 (by have := loads12_len m0; omega)
  obtain ⟨_, a5, c5, rfl⟩ := hp5.shape
  clear ho5 hp5
  go_wp2_with fail
  refine (pick2g_any w5 S _ _ a5 _ c5 Br B key p I (HRx.out.ext E5) (by omega) HI64.out (HI2x.out.ext E5)).mono ?_
  rintro e w6 ⟨rfl, E6⟩
  have hm1 := (HB0.out _ (HE04.out.trans (E5.trans E6))).2
  obtain ⟨R, hR⟩ : ∃ R, pickR (rowOf key (pointsOf p I)) S = R := ⟨_, rfl⟩
  have HRR := hide hR
  rw [hR]
  clear hR
  go_wp2_with fail
  refine (loads12_any m1 _ _ ((H3.out.ext HE0.out).ext (HE04.out.trans (E5.trans E6))) H3I.out).mono ?_
  rintro e w7 ⟨v7, rfl, ho7, E7⟩
  have hp7 := own_parts_s ho7 (by have := loads12_len m1; omega)
  obtain ⟨_, a7, c7, rfl⟩ := hp7.shape
  clear ho7 hp7
  go_wp2_with fail
  refine (pick2g_any w7 S _ _ a7 _ c7 Br B key p I (HRx.out.ext (E5.trans (E6.trans E7))) (by omega) HI64.out (HI2x.out.ext (E5.trans (E6.trans E7)))).mono ?_
  rintro e w8 ⟨rfl, E8⟩
  rw [HRR.out]
  have HE8 := hide (HE04.out.trans (E5.trans (E6.trans (E7.trans E8))))
  have HR8 := hide (HRx.out.ext (E5.trans (E6.trans (E7.trans E8))))
  have HI8 := hide (HI2x.out.ext (E5.trans (E6.trans (E7.trans E8))))
  obtain ⟨x, hx⟩ : ∃ x, R.getD 0 = x := ⟨_, rfl⟩
  obtain ⟨t, ht⟩ : ∃ t, R.isSome = t := ⟨_, rfl⟩
  rw [hx, ht]
  have HX := hide hx
  have HT := hide ht
  clear hx ht hm0 hm1 E5 E6 E7 E8 HR HI1 HI2 HRx HI2x
  have hxx : (x != x) = false := by simp
  have htt : (t != t) = false := by simp
  by_cases h0 : S.length = 0
  · have hS0 := List.eq_nil_of_length_eq_zero h0
    have htf : t = false := by rw [← HT.out, ← HRR.out, hS0, pickR_nil]; rfl
    subst htf
    have hz : ((S.length : Int) == 0) = true := by simp [h0]
    clear hS0 h0
    go_wp2_with fail
    refine (lives12_any _).mono ?_
    rintro e w9 ⟨rfl, E9⟩
    go_wp2_with fail
    go_ret
    exact ⟨rfl, HE0.out.trans (HE8.out.trans E9)⟩
  · have hz : ((S.length : Int) == 0) = false := beq_eq_false_iff_ne.2 (by omega)
    have b1 := around_bd away S.length (by omega)
    have har : ∀ u : World, Calls Try.prog 15 #[.int .i64 away, .int .i64 S.length] u fun e w' => e = .returned (.int .i64 (around away S.length)) ∧ u = w' := fun u => around_any away S.length u h4 (by omega)
    obtain ⟨k, hk⟩ : ∃ k : Nat, around away S.length = k := ⟨(around away S.length).toNat, by omega⟩
    rw [hk] at har b1
    have HAR := hide har
    have hkl : k < S.length := by omega
    clear har hk h0
    rcases HSH.out with ⟨e1, e2⟩ | ⟨b, c, e1, hc1, hc2⟩
    · exfalso; rw [e2] at hkl; simp at hkl
    · cases e1
      go_wp2_with fail
      refine (HAR.out _).mono ?_
      rintro e w9 ⟨rfl, rfl⟩
      go_wp2_with fail
      have hcs : S.length ≤ c2 := hc1
      have hkc : k + 1 ≤ c2 := by omega
      have hd := HI8.out.drop (k + 1) (by omega)
      have htk := HI8.out.take k (by omega)
      have hdl : (S.drop (k + 1)).length = S.length - (k + 1) := List.length_drop
      have htl : (S.take k).length = k := by rw [List.length_take]; omega
      have hsd : SrcI w8 (.slice (if c2 = k + 1 then some ⟨b, 0, none⟩ else some ⟨b, k + 1, none⟩) (S.length - (k + 1)) (c2 - (k + 1))) (S.drop (k + 1)) := by
        by_cases hck : c2 = k + 1
        · have hn : S.drop (k + 1) = [] := List.eq_nil_of_length_eq_zero (by rw [hdl]; omega)
          rw [if_pos hck, hn]
          have e0 : S.length - (k + 1) = 0 := by omega
          rw [e0]
          exact .inr ⟨_, _, rfl, by simp, some ⟨b, 0, none⟩, c2 - (k + 1), rfl, by simp; omega, fun i x hi => by simp at hi⟩
        · rw [if_neg hck]
          have e : 0 + (k + 1) * 1 = k + 1 := by omega
          rw [← hdl] at hd ⊢
          rw [e] at hd
          exact .inr ⟨_, _, rfl, hd⟩
      have hst : SrcI w8 (.slice (some ⟨b, 0, none⟩) k c2) (S.take k) := by
        refine .inr ⟨⟨b, 0, none⟩, c2, by rw [htl], ?_⟩
        rw [htl]; exact htk
      have e0 : Ext w8 (w8.alloc (.cells #[] 3)).drew := ((Below.refl _ w8).alloc (Nat.le_refl _) _).drew
      have HSD := hide hsd
      have HST := hide (hst.ext e0)
      have hki : (k : Int) < S.length := by omega
      have hci : (S.length : Int) ≤ c2 := by omega
      have hkc0 : k ≤ c2 := by omega
      have hkcz : (k : Int) ≤ c2 := by omega
      have hk1z : (k : Int) + 1 ≤ S.length := by omega
      have hk1c : (k : Int) + 1 ≤ c2 := by omega
      have hk0 : (0 : Int) ≤ k := by omega
      clear hd htk hsd hst
      have hwk : IntKind.i64.wrap ((k : Int) + 1) = (k : Int) + 1 := by simp [IntKind.wrap, IntKind.signed, IntKind.bits]; omega
      have hk01 : (0 : Int) ≤ (k : Int) + 1 := by omega
      have hnk : ((k : Int) + 1).toNat = k + 1 := by omega
      go_region_law (first
        | (refine step_append_src (by rfl) _ _ _ (by rfl) w8.heap.size 3 i0 8 Try.underlying28 hi hz0 hz1 hz2 (.slice (some ⟨w8.heap.size, 0, none⟩) 0 0) 0 [] (by rfl) ((World.ownsRow_made (size := 1) (e := 3) w8 #[] 0 (Nat.le_refl _) (by decide) (by rfl)).drew) _ (S.take k) (by rfl) HST.out (by rw [htl]; unfold maxLen; omega) (by rw [htl]; omega) (by simp) ?_; intro v3 w3 hown3 hgrow3; have hb3 : w8.heap.size ≤ w3.heap.size := Nat.le_trans (by simp) hgrow3.size; have e3 : Ext w8 w3 := Below.grown ((Below.alloc (Below.refl _ w8) (Nat.le_refl _) _).drew) hgrow3 (by simp) (fun r hr => by simp [Value.ownBlock] at hr; omega))
        | (refine step_append_src (by rfl) _ _ _ (by rfl) w8.heap.size 3 i0 8 Try.underlying28 hi hz0 hz1 hz2 v3 _ _ (by rfl) hown3 _ (S.drop (k + 1)) (by rfl) (HSD.out.ext e3) (by rw [hdl, htl]; unfold maxLen; omega) (by rw [hdl, htl]; omega) hb3 ?_; intro v4 w4' hown4 hgrow4))
      clear hwk hnk hk01
      have e4 : Ext w8 w4' := Below.grown e3 hgrow4 hb3 (fun r hr => (hown3.lt r hr).1)
      have hjl : (lessI S k).length = S.length - 1 := lessI_len S k hkl
      have hj : Ints w4' v4 (lessI S k) := by
        refine own_ints_b (base := w8.heap.size) (n := 0 + (S.take k).length + (S.drop (k + 1)).length) ?_ (by rw [hjl]; omega)
        unfold lessI
        rw [List.flatMap_append]
        rw [List.nil_append] at hown4
        exact hown4
      obtain ⟨_, a4, c4, rfl⟩ := hj.shape
      have HJ := hide hj
      have HE4 := hide e4
      obtain ⟨b', off', eb, hbb, hcy⟩ := ints_at HI8.out k hkl
      cases eb
      rw [Nat.zero_add] at hcy
      have hst := stays_some (rowOf key (pointsOf p I)) S k hkl HND.out
      have hsn := stays_not (rowOf key (pointsOf p I)) S k hkl HND.out
      rw [HRR.out] at hst
      obtain ⟨y, hy⟩ : ∃ y, S[k] = y := ⟨_, rfl⟩
      rw [hy] at hcy hst hsn
      obtain ⟨R', hR'⟩ : ∃ R', pickR (rowOf key (pointsOf p I)) (lessI S k) = R' := ⟨_, rfl⟩
      rw [hR'] at hst hsn
      have HR' := hide hR'
      have HST' := hide hst
      have HSN := hide hsn
      have hcz : ∀ X : World, Ext w8 X → X.cell? ⟨b, k, none⟩ = some (.int .i64 y) := fun X hX => (hX.cell (p := ⟨b, k, none⟩) hbb).trans hcy
      have HCZ := hide hcz
      clear e3 e4 hown4 hgrow4 hown3 hgrow3 hj hjl hcy hy hR' hst hsn hcz hdl htl
      generalize (if c2 = k + 1 then some ⟨b, 0, none⟩ else some ⟨b, k + 1, none⟩ : Option Addr) = xd
      obtain ⟨J, hJ⟩ : ∃ J, lessI S k = J := ⟨_, rfl⟩
      rw [hJ] at HJ HR' ⊢
      clear hJ
      go_wp2_with fail
      refine (pick2g_any w4' J _ _ none 0 0 Br B key p I (HR8.out.ext HE4.out) (by omega) HI64.out HJ.out).mono ?_
      rintro e w10 ⟨rfl, E10⟩
      rw [HR'.out]
      have hc10 := HCZ.out _ (HE4.out.trans E10)
      have HEE := hide (HE4.out.trans E10)
      have hxR := HX.out
      have htR := HT.out
      have HXR := hide hxR
      have HTR := hide htR
      clear hxR htR
      cases t with
      | false =>
        cases hr : R' with
        | none =>
          have HN := hide hr
          clear hr
          simp only [Option.getD_none, Option.isSome_none]
          go_wp2_with fail
          refine (lives12_any _).mono ?_
          rintro e w11 ⟨rfl, E11⟩
          go_wp2_with fail
          go_ret
          exact ⟨rfl, HE0.out.trans (HE8.out.trans (HEE.out.trans E11))⟩
        | some c =>
          have hcy : (c != y) = true := by simpa using HSN.out c hr
          have HN := hide hr
          clear hr
          simp only [Option.getD_some, Option.isSome_some]
          go_wp2_with fail
          refine (lives12_any _).mono ?_
          rintro e w11 ⟨rfl, E11⟩
          go_wp2_with fail
          go_ret
          exact ⟨rfl, HE0.out.trans (HE8.out.trans (HEE.out.trans E11))⟩
      | true =>
        have hRx : R = some x := by
          cases R with
          | none => have := HTR.out; simp at this
          | some z => have := HXR.out; simp at this; rw [this]
        by_cases hyx : y = x
        · have hb : (y != x) = false := by simp [hyx]
          clear hyx hRx
          cases hr : R' with
          | none =>
            have HN := hide hr
            clear hr
            simp only [Option.getD_none, Option.isSome_none]
            go_wp2_with fail
            refine (lives12_any _).mono ?_
            rintro e w11 ⟨rfl, E11⟩
            go_wp2_with fail
            go_ret
            exact ⟨rfl, HE0.out.trans (HE8.out.trans (HEE.out.trans E11))⟩
          | some c =>
            have hcy : (c != y) = true := by simpa using HSN.out c hr
            have HN := hide hr
            clear hr
            simp only [Option.getD_some, Option.isSome_some]
            go_wp2_with fail
            refine (lives12_any _).mono ?_
            rintro e w11 ⟨rfl, E11⟩
            go_wp2_with fail
            go_ret
            exact ⟨rfl, HE0.out.trans (HE8.out.trans (HEE.out.trans E11))⟩
        · have hb : (y != x) = true := by simpa using hyx
          have hr := HST'.out x hRx hyx
          have hbx : (x == x) = true := by simp
          rw [hr]
          clear hr hyx hRx
          simp only [Option.getD_some, Option.isSome_some]
          go_wp2_with fail
          refine (lives12_any _).mono ?_
          rintro e w11 ⟨rfl, E11⟩
          go_wp2_with fail
          go_ret
          exact ⟨rfl, HE0.out.trans (HE8.out.trans (HEE.out.trans E11))⟩
end Go.Proofs.Ytoncfogihiapiaa
