/- ChooseRing: Pick of a kind that there is not, the reference's ByRing; the walk. -/
import Derived.Test.YtoncfogihiapiaaChX
import Derived.Test.YtoncfogihiapiaaChU
namespace Go.Proofs.Ytoncfogihiapiaa
open Go.ChangeShapes Go.WideShapes Go.ChangeAt Go.RowKit Go.Maps Go.Shelf
set_option maxRecDepth 100000 in
set_option maxHeartbeats 4000000 in
theorem pickX_any (kind : Int) (hkd : I64 kind) (hno : kind ≠ 1 ∧ kind ≠ 2 ∧ kind ≠ 3) (w : World) (n : Nat) (a : Option Addr) (cap : Nat) (a2 : Option Addr) (n2 cap2 : Nat) (Br Bd : Nat) (key : Int) (hn : 0 < n) (hls : (n : Int) ≤ 9223372036854775807) :
    Calls Try.prog 16 #[.int .i64 kind, .pointer (some ⟨Br, 0, none⟩), .slice a n cap, .int .u64 key, .slice a2 n2 cap2, .pointer (some ⟨Bd, 0, none⟩)] w fun e w' => e = .returned (.tuple #[.int .i64 0, .bool false]) ∧ Ext w w' := by
  have hnz : ((n : Int) == 0) = false := beq_eq_false_iff_ne.2 (by omega)
  have hmm := @run_makeMap Try.prog
  have HKD := hide hkd
  have HNO := hide hno
  clear hkd hno
  obtain ⟨N, hN⟩ : ∃ N, w.heap.size = N := ⟨_, rfl⟩
  obtain ⟨R, hR1, hR2, hR3, hRn, _, _, _, hS0⟩ := ways_read (.func (.func 26) #[] #[.pointer (some ⟨w.heap.size + 1, 0, none⟩), .pointer (some ⟨w.heap.size + 1 + 1 + 1, 0, none⟩), .pointer (some ⟨w.heap.size + 1 + 1 + 1 + 1, 0, none⟩)])
    (.func (.func 28) #[] #[.pointer (some ⟨w.heap.size, 0, none⟩), .pointer (some ⟨w.heap.size + 1 + 1, 0, none⟩), .pointer (some ⟨w.heap.size + 1, 0, none⟩)])
    (.func (.func 31) #[] #[.pointer (some ⟨w.heap.size, 0, none⟩), .pointer (some ⟨w.heap.size + 1 + 1, 0, none⟩), .pointer (some ⟨w.heap.size + 1, 0, none⟩), .pointer (some ⟨w.heap.size + 1 + 1 + 1, 0, none⟩)])
    (fn_ne _ _ _ _ _ _ (by decide)) (fn_ne _ _ _ _ _ _ (by decide)) (fn_ne _ _ _ _ _ _ (by decide)) (fun e => by cases e) (fun e => by cases e) (fun e => by cases e)
  have HS0 := hide hS0
  clear hS0 hN
  have hown0 := World.ownsMap_made ((((((w.alloc (.cells #[.pointer (some ⟨Br, 0, none⟩)] 37)).alloc (.cells #[.slice a n cap] 28)).alloc (.cells #[.int .u64 key] 29)).alloc (.cells #[.slice a2 n2 cap2] 22)).alloc (.cells #[.pointer (some ⟨Bd, 0, none⟩)] 32))) Try.prog 3 R
  have hsz : ((((((w.alloc (.cells #[.pointer (some ⟨Br, 0, none⟩)] 37)).alloc (.cells #[.slice a n cap] 28)).alloc (.cells #[.int .u64 key] 29)).alloc (.cells #[.slice a2 n2 cap2] 22)).alloc (.cells #[.pointer (some ⟨Bd, 0, none⟩)] 32))).heap.size = w.heap.size + 1 + 1 + 1 + 1 + 1 := by simp
  rw [hsz] at hown0
  have e6 : Ext w (((((((w.alloc (.cells #[.pointer (some ⟨Br, 0, none⟩)] 37)).alloc (.cells #[.slice a n cap] 28)).alloc (.cells #[.int .u64 key] 29)).alloc (.cells #[.slice a2 n2 cap2] 22)).alloc (.cells #[.pointer (some ⟨Bd, 0, none⟩)] 32))).alloc (.map #[] 0)) := by
    refine Below.alloc (Below.alloc (Below.alloc (Below.alloc (Below.alloc (Below.alloc (Below.refl _ w) (Nat.le_refl _) _) ?_ _) ?_ _) ?_ _) ?_ _) ?_ _ <;> simp <;> omega
  have ks : (((((((w.alloc (.cells #[.pointer (some ⟨Br, 0, none⟩)] 37)).alloc (.cells #[.slice a n cap] 28)).alloc (.cells #[.int .u64 key] 29)).alloc (.cells #[.slice a2 n2 cap2] 22)).alloc (.cells #[.pointer (some ⟨Bd, 0, none⟩)] 32))).alloc (.map #[] 0)).heap.size = w.heap.size + 1 + 1 + 1 + 1 + 1 + 1 := by simp
  obtain ⟨w1, hrun1, hown1, hg1⟩ := hown0.update lawI Try.underlying61 (by decide) (keyI (z := 1) (by unfold I64; omega)) hR1
  obtain ⟨w2, hrun2, hown2, hg2⟩ := hown1.update lawI Try.underlying61 (by decide) (keyI (z := 2) (by unfold I64; omega)) hR2
  obtain ⟨w3, hrun3, hown3, hg3⟩ := hown2.update lawI Try.underlying61 (by decide) (keyI (z := 3) (by unfold I64; omega)) hR3
  obtain ⟨v, ps, hlook, hv⟩ := hown3.look_ok lawI Try.underlying61 (zeroF _) (zd := .lit (.int .i64 0)) (zp := []) hRn (keyI (z := kind) HKD.out)
  have hne : ∀ z : Int, kind ≠ z → (Lit.int .i64 kind) ≠ (Lit.int .i64 z) := fun z h e => h (by cases e; rfl)
  have hh : Maps.has ((((DataW.map [] : DataW Nat).put (.int .i64 1) (.lit (.int .i64 1))).put (.int .i64 2) (.lit (.int .i64 2))).put (.int .i64 3) (.lit (.int .i64 3))) (.int .i64 kind) = false := by
    rw [Maps.has_put_other (hne 3 HNO.out.2.2), Maps.has_put_other (hne 2 HNO.out.2.1), Maps.has_put_other (hne 1 HNO.out.1)]
    rfl
  rw [hh] at hlook
  have hgg := grown_trans (grown_trans hg1 hg2) hg3
  have hE : Ext w w3 := Below.grown e6 hgg (by rw [ks]; omega) (fun r hr => by cases hr; omega)
  have HE := hide hE
  clear hown0 hown1 hown2 hown3 hg1 hg2 hg3 hgg hv hE ks e6 hsz hR1 hR2 hR3 hRn hne hh
  go_enter Try.func16, Try.ntmps16
  go_wp2_with fail
  go_ret2
  exact ⟨rfl, HE.out⟩
theorem cnt_take_nil (row S : List Int) (k : Nat) (hk : k < row.length) (h : cnt (row.take k) S = []) (hc : S.contains row[k] = true) : pickR row S = some row[k] := by
  have e : cnt row S = cnt (row.take (k + 1)) S ++ cnt (row.drop (k + 1)) S := by
    conv => lhs; rw [← List.take_append_drop (k + 1) row]
    unfold cnt; rw [List.filter_append]
  unfold pickR
  rw [e, cnt_succ row S k hk, if_pos hc, h]
  rfl
set_option maxRecDepth 100000 in
set_option maxHeartbeats 2000000 in
theorem rbyRing_any (ids S : List Int) (v u : Value) (p : Nat) (key : Int) (w : World) (hs : Ints w v ids) (hi64 : ∀ x ∈ ids, I64 x) (hl : ids.length ≤ 1000) (hp : 1 ≤ p ∧ p ≤ 1000) (hk : 0 ≤ key ∧ key ≤ 18446744073709551615) (hS : Ints w u S) :
    Calls Try.prog 20 #[v, .int .i64 p, u, .int .u64 key] w fun e w' => e = .returned (.tuple #[.int .i64 ((pickR (rowOf key (pointsOf p ids)) S).getD 0), .bool (pickR (rowOf key (pointsOf p ids)) S).isSome]) ∧ Ext w w' := by
  obtain ⟨_, a, cap, rfl⟩ := hs.shape
  obtain ⟨_, a2, cap2, rfl⟩ := hS.shape
  have hrow := rrow_any ids _ p key w hs hi64 hl hp hk
  have hrl := rowOf_le key p hp.1 ids
  obtain ⟨row, hrw⟩ : ∃ row, rowOf key (pointsOf p ids) = row := ⟨_, rfl⟩
  rw [hrw] at hrow hrl ⊢
  have HROW := hide hrow
  have HS := hide hS
  have hrl2 : (row.length : Int) ≤ 1000 := by omega
  clear hs hi64 hk hS hrow hrw
  go_enter Try.func20, Try.ntmps20
  go_wp2_with fail
  refine HROW.out.mono ?_
  rintro e w1 ⟨v1, rfl, h1, E1⟩
  obtain ⟨_, a3, c3, rfl⟩ := h1.shape
  have HR := hide h1
  have HS1 := hide (HS.out.ext E1)
  clear h1
  go_wp2_with fail
  go_loopw [11] (fun i wr => ∃ k : Nat, k ≤ row.length ∧ i = .int .i64 k ∧ cnt (row.take k) S = [] ∧ wr = w1) (fun i _ => row.length - (intOf i).toNat)
  case atStart => exact ⟨0, by omega, rfl, by simp [cnt], rfl⟩
  case round =>
    obtain ⟨k, hk, rfl, hno, rfl⟩ := hrel
    by_cases hlt : k < row.length
    · obtain ⟨b, off, rfl, hbb, hc⟩ := ints_at HR.out k hlt
      have hcs := cnt_succ row S k hlt
      have hfd := cnt_take_nil row S k hlt hno
      obtain ⟨x, hx⟩ : ∃ x, row[k] = x := ⟨_, rfl⟩
      rw [hx] at hc hcs hfd
      obtain ⟨t, ht⟩ : ∃ t, S.contains x = t := ⟨_, rfl⟩
      rw [ht] at hcs hfd
      rw [hno] at hcs
      have HT := hide ht
      have HCS := hide hcs
      have HFD := hide hfd
      clear hx ht hcs hfd hno
      go_wp2_with fail
      refine (has_any S x _ _ HS1.out).mono ?_
      rintro e w' ⟨rfl, rfl⟩
      rw [HT.out]
      cases t with
      | true =>
        have hf := HFD.out rfl
        have HF := hide hf
        clear hf
        go_wp2_with fail
        go_ret2
        exact ⟨by rw [HF.out]; rfl, E1⟩
      | false =>
        have hf := HCS.out
        have HF := hide hf
        clear hf
        go_wp2_with fail
        go_roundw
        case rel => exact ⟨k + 1, hlt, by go_num, by rw [HF.out]; rfl, trivial⟩
        case measure => simp [intOf]; omega
    · obtain rfl : k = row.length := by omega
      rw [List.take_length] at hno
      have hf : pickR row S = none := by unfold pickR; rw [hno]; rfl
      have HF := hide hf
      clear hf hno
      go_wp2_with fail
      go_ret2
      exact ⟨by rw [HF.out]; rfl, E1⟩
theorem used_any (w : World) (B : Nat) (said : List Int) (used : Nat) (h : DrawsAt w B said used) :
    Calls Try.prog 22 #[.pointer (some ⟨B, 0, none⟩)] w fun e w' => e = .returned (.int .i64 used) ∧ w = w' := by
  obtain ⟨f, sv, seed, hb, hs, hsd, hcase⟩ := h
  obtain ⟨c0, c1, c2, c3, f0, f1, f2, f3⟩ := cell_dr hb
  clear hb hs hsd hcase
  go_enter Try.func22, Try.ntmps22
  go_wp2_with fail
  go_ret
  exact ⟨rfl, rfl⟩
set_option maxRecDepth 100000 in
set_option maxHeartbeats 8000000 in
theorem ring_walk (on l m : List Int) (v u x : Value) (key kind : Int) (w : World) (h0 : Ints w v on) (h0i : ∀ x ∈ on, I64 x) (h1 : Ints w u l) (h1i : ∀ x ∈ l, I64 x) (h2 : Ints w x m) (h2i : ∀ x ∈ m, I64 x) (h4 : U64 key) (h5 : I64 kind) :
    Calls Try.prog 8 #[v, u, .int .u64 key, x, .int .i64 kind] w fun e w' => e = .returned (.bool true) ∧ Ext w w' := by
  obtain ⟨_, ax, cx, rfl⟩ := h0.shape
  obtain ⟨_, ay, cy, rfl⟩ := h1.shape
  obtain ⟨_, az, cz, rfl⟩ := h2.shape
  have H0 := hide h0
  have H1 := hide h1
  have H2 := hide h2
  have H4 := hide h4
  have H5 := hide h5
  have H0I := hide h0i
  have H1I := hide h1i
  have H2I := hide h2i
  obtain ⟨p, hp, hp1, hp6⟩ := madeP_nat on
  have hlen := madeI_len on
  have hmade : ∀ u, Ints u (.slice ax on.length cx) on → Calls Try.prog 19 #[.slice ax on.length cx] u fun e w' => ∃ v', e = .returned (.tuple #[v', .int .i64 p]) ∧ w'.ownsRow u.heap.size 3 1 v' (madeI on).length ((madeI on).flatMap encI) ∧ Ext u w' := fun u hu =>
    (made_any on _ u hu H0I.out).mono (by rintro e w' ⟨v', rfl, ho, he⟩; exact ⟨v', by rw [hp], ho, he⟩)
  have HMD := hide hmade
  have hbd := madeI_bd on
  obtain ⟨I, hI⟩ : ∃ I, madeI on = I := ⟨_, rfl⟩
  have hlen2 : I.length ≤ 8 := by rw [← hI]; exact hlen
  have hI64 : ∀ x ∈ I, I64 x := fun x hx => by have := hbd x (by rw [hI]; exact hx); unfold I64; omega
  have HI := hide hI
  have HI64 := hide hI64
  have hsl := someI_len l
  have hsb := someI_bd l
  obtain ⟨S, hS⟩ : ∃ S, someI l = S := ⟨_, rfl⟩
  rw [hS] at hsl hsb
  have hS64 : ∀ x ∈ S, I64 x := fun x hx => by have := hsb x hx; unfold I64; omega
  have HS := hide hS
  have HS64 := hide hS64
  have hl6 : S.length ≤ 6 := hsl.2
  have hl6z : (S.length : Int) ≤ 6 := by omega
  have hll := loads12_len m
  have hlb := loads12_bd m
  obtain ⟨L, hL⟩ : ∃ L, loads12 m = L := ⟨_, rfl⟩
  rw [hL] at hll hlb
  have HL := hide hL
  have HL1 := hide (show ∀ x ∈ L, I64 x.1 from fun x hx => by have := hlb x hx; unfold I64; omega)
  have HL2 := hide (show ∀ x ∈ L, 0 ≤ x.2 ∧ x.2 ≤ 2000000 from fun x hx => by have := hlb x hx; omega)
  clear h0 h1 h2 h0i h1i h2i h4 h5 hmade hp hlen hbd hI64 hI hsl hS hsb hS64 hlb hL
  go_enter Try.func8, Try.ntmps8
  go_wp2_with fail
  refine (HMD.out _ H0.out).mono ?_
  rintro e w1 ⟨v1, rfl, ho1, E1⟩
  rw [HI.out] at ho1
  have hi1 := own_ints ho1 (by omega)
  obtain ⟨_, a1, c1, rfl⟩ := hi1.shape
  have HI1 := hide hi1
  clear ho1 hi1
  go_wp2_with fail
  refine (some_any l _ _ (H1.out.ext E1) H1I.out).mono ?_
  rintro e w2 ⟨v2, rfl, ho2, E2⟩
  rw [HS.out] at ho2
  have hi2 := own_ints_b ho2 (by omega)
  obtain ⟨_, a2, c2, rfl⟩ := hi2.shape
  have HI2 := hide hi2
  clear ho2 hi2
  go_wp2_with fail
  refine (loads12_any m _ _ (H2.out.ext (E1.trans E2)) H2I.out).mono ?_
  rintro e w3 ⟨v3, rfl, ho3, E3⟩
  rw [HL.out] at ho3
  have hi3 := own_parts_t ho3 (by omega)
  obtain ⟨_, a3, c3, rfl⟩ := hi3.shape
  have HI3 := hide hi3
  clear ho3 hi3
  go_wp2_with fail
  refine (newD_nil 3 _ (by unfold U64; omega)).mono ?_
  rintro e w3b ⟨B, rfl, hd, hB, E3b⟩
  have HD := hide hd
  have E3 := E3.trans E3b
  have hi3' := HI3.out.ext E3b
  have HI3 := hide hi3'
  clear hd hB E3b hi3'
  go_wp2_with fail
  refine (new_any I _ p _ (HI1.out.ext (E2.trans E3)) (by omega) (by omega)).mono ?_
  rintro e w4 ⟨r4, rfl, hr4, E4⟩
  have HD := hide (HD.out.ext E4)
  obtain ⟨Br, rfl⟩ := hr4.shape'
  have HR := hide hr4
  have HI1x := hide (HI1.out.ext (E2.trans (E3.trans E4)))
  have HI2x := hide (HI2.out.ext (E3.trans E4))
  have HI3x := hide (HI3.out.ext E4)
  have HE := hide (E1.trans (E2.trans (E3.trans E4)))
  obtain ⟨wz, hwz⟩ : ∃ wz, w4 = wz := ⟨_, rfl⟩
  subst hwz
  clear HI1 HI2 HI3 hr4 E1 E2 E3 E4
  go_wp2_with fail
  refine (pick2g_any w4 S _ _ a3 _ c3 Br B key p I HR.out (by omega) HI64.out HI2x.out).mono ?_
  rintro e w5 ⟨rfl, E5⟩
  obtain ⟨R, hR⟩ : ∃ R, pickR (rowOf key (pointsOf p I)) S = R := ⟨_, rfl⟩
  have HRR := hide hR
  rw [hR]
  clear hR
  go_wp2_with fail
  refine (rbyRing_any I S _ _ p key w5 (HI1x.out.ext E5) HI64.out (by omega) (by omega) H4.out (HI2x.out.ext E5)).mono ?_
  rintro e w6 ⟨rfl, E6⟩
  rw [HRR.out]
  go_wp2_with fail
  refine (pick3g_any w6 S _ _ a3 c3 Br B key p I L (HR.out.ext (E5.trans E6)) (by omega) HI64.out (HI2x.out.ext (E5.trans E6)) (HI3x.out.ext (E5.trans E6)) (by omega) (by omega) HS64.out HL2.out).mono ?_
  rintro e w7 ⟨rfl, E7⟩
  obtain ⟨Q, hQ⟩ : ∃ Q, pickB (rowOf key (pointsOf p I)) S L = Q := ⟨_, rfl⟩
  have HQQ := hide hQ
  rw [hQ]
  clear hQ
  go_wp2_with fail
  refine (pick_any I S L p key 125 _ _ _ w7 (HR.out.ext (E5.trans (E6.trans E7))) (HI2x.out.ext (E5.trans (E6.trans E7))) (HI3x.out.ext (E5.trans (E6.trans E7))) (by omega) (by omega) HI64.out (by omega) HS64.out (by omega) HL1.out HL2.out (by omega)).mono ?_
  rintro e w8 ⟨rfl, E8⟩
  have hq2 : pickOf (cnt (rowOf key (pointsOf p I)) S) L 125 = Q := HQQ.out
  rw [hq2]
  clear hq2
  have HE8 := hide (E5.trans (E6.trans (E7.trans E8)))
  obtain ⟨x, hx⟩ : ∃ x, R.getD 0 = x := ⟨_, rfl⟩
  obtain ⟨t, ht⟩ : ∃ t, R.isSome = t := ⟨_, rfl⟩
  obtain ⟨y, hy⟩ : ∃ y, Q.getD 0 = y := ⟨_, rfl⟩
  obtain ⟨s, hs⟩ : ∃ s, Q.isSome = s := ⟨_, rfl⟩
  rw [hx, ht, hy, hs]
  have h1 : (x != x) = false := by simp
  have h2 : (t != t) = false := by simp
  have h3 : (y != y) = false := by simp
  have h4 : (s != s) = false := by simp
  clear hx ht hy hs E5 E6 E7 E8
  go_wp2_with fail
  refine (used_any _ B [] 0 (HD.out.ext HE8.out)).mono ?_
  rintro e w9 ⟨rfl, rfl⟩
  by_cases hk : 1 ≤ kind ∧ kind ≤ 3
  · obtain ⟨hk1, hk2⟩ := hk
    go_wp2_with fail
    refine (lives12_any _).mono ?_
    rintro e w10 ⟨rfl, E10⟩
    go_wp2_with fail
    go_ret
    exact ⟨rfl, HE.out.trans (HE8.out.trans E10)⟩
  · have hpx : ∀ X, Calls Try.prog 16 #[.int .i64 kind, .pointer (some ⟨Br, 0, none⟩), .slice a2 S.length c2, .int .u64 key, .slice a3 L.length c3, .pointer (some ⟨B, 0, none⟩)] X fun e w' => e = .returned (.tuple #[.int .i64 0, .bool false]) ∧ Ext X w' := fun X => by
      by_cases h0 : S.length = 0
      · rw [h0]; exact pick0g_any X kind a2 c2 _ c3 a3 Br B key
      · exact pickX_any kind H5.out (by omega) X S.length a2 c2 a3 _ c3 Br B key (by omega) (by omega)
    have HPX := hide hpx
    clear hpx
    have hkk : kind < 1 ∨ 3 < kind := by omega
    clear hk
    rcases hkk with hk1 | hk1
    · have hkx : ¬ (1 ≤ kind) := by omega
      go_wp2_with fail
      refine (HPX.out _).mono ?_
      rintro e w9 ⟨rfl, E9⟩
      go_wp2_with fail
      refine (lives12_any _).mono ?_
      rintro e w10 ⟨rfl, E10⟩
      go_wp2_with fail
      go_ret
      exact ⟨rfl, HE.out.trans (HE8.out.trans (E9.trans E10))⟩
    · have hkx : (1 ≤ kind) := by omega
      have hkx2 : ¬ (kind ≤ 3) := by omega
      go_wp2_with fail
      refine (HPX.out _).mono ?_
      rintro e w9 ⟨rfl, E9⟩
      go_wp2_with fail
      refine (lives12_any _).mono ?_
      rintro e w10 ⟨rfl, E10⟩
      go_wp2_with fail
      go_ret
      exact ⟨rfl, HE.out.trans (HE8.out.trans (E9.trans E10))⟩
end Go.Proofs.Ytoncfogihiapiaa
