/- law08.RouteAll: the walk (printed by wip/gen_lwall.py). -/
import Derived.Test.YtlaaapfpchnmeaaDoorLwP
import Derived.Test.YtlaaapfpchnmeaaDoorGnJ
namespace Go.Proofs.YtlaaapfpchnmeaaDoor
open Go.ChangeShapes Go.WideShapes Go.ChangeAt Go.RowKit Go.Lib Go.Shelf
theorem filter_snoc (Rs : List RuleD) (i : Nat) (h : i < Rs.length) : (Rs.take (i + 1)).filter moreB = if moreB Rs[i] = true then (Rs.take i).filter moreB ++ [Rs[i]] else (Rs.take i).filter moreB := by
  rw [take_snoc Rs i h, List.filter_append]
  split
  · rename_i hb; simp [hb]
  · rename_i hb; simp [hb]
set_option maxRecDepth 100000 in
set_option maxHeartbeats 16000000 in
theorem all_walk (L : List Int) (n : Int) (HN : List Int) (v hv : Value) (w : World) (hs : Ints w v L) (hL : ∀ x ∈ L, I64 x) (hn : I64 n) (hh : Ints w hv HN) (hH : ∀ x ∈ HN, I64 x) (hm : MaxV w) :
    Calls Tryd.prog 5 #[v, .int .i64 n, hv] w fun e w' => e = .returned (.bool true) ∧ Ext w w' := by
  obtain ⟨_, a, c, rfl⟩ := hs.shape
  obtain ⟨_, ah, ch, rfl⟩ := hh.shape
  obtain ⟨dd, hd1, hd2⟩ := Tryd.ruleDesc
  obtain ⟨ir, zr, hir0, hir1, hir2, hir3, hir4⟩ := info_partsR
  have HRULES := hide (rules_any L _ w hs hL)
  have HHD := hide (fun X (hX : Ext w X) => heads_any HN (.slice ah HN.length ch) X (hh.ext hX) hH)
  have HPA := hide (fun X => pathof_any n X hn)
  have HM := hide hm
  clear hs hL hh hH hm hn
  go_enter Tryd.func5, Tryd.ntmps5
  go_wp2_with fail
  refine HRULES.out.mono ?_
  rintro e w1 ⟨v1, Rs, rfl, hcore, hown1, hros, E1⟩
  have hlen5 := rules_len hcore
  have hright := rules_right hcore
  have hR1 : Rules w1 v1 Rs := Sl.of_own' encR_len hown1
  have hok1 : ∀ r ∈ Rs, RuleOk w1 r := fun r hr => (hros r hr).ok
  obtain ⟨a1, c1, rfl⟩ := owns_shape hown1
  have HR := hide hR1
  have HOK := hide hok1
  have HRT := hide hright
  have HE1 := hide E1
  clear hR1 hok1 hright E1 hcore hown1 hros HRULES
  go_wp2_with fail
  go_loopw [8, 9] (fun v8 v9 wr => ∃ (i : Nat) (M : List RuleD), v9 = .int .i64 i ∧ i ≤ Rs.length ∧ (Rs.take i).filter moreB = M ∧ wr.ownsRow w1.heap.size 38 19 v8 M.length (M.flatMap encR) ∧ Ext w1 wr) (fun _ i _ => Rs.length - (intOf i).toNat)
  case atStart => exact ⟨0, [], rfl, by omega, rfl, World.ownsRow_nil _ _ _ _, Below.refl _ _⟩
  case round =>
    obtain ⟨i, M, rfl, hi, hM, hown, hext⟩ := hrel
    obtain ⟨xa, xc, rfl⟩ := owns_shape hown
    have hml : M.length ≤ 5 := by
      rw [← hM]
      have h1 := List.length_filter_le moreB (Rs.take i)
      have h2 := List.length_take_le i Rs
      omega
    have HML := hide hml
    have HOW := hide hown
    have HE := hide hext
    clear hown hext hml
    by_cases hlt : i < Rs.length
    · obtain ⟨b, off, rfl, hbb, hc⟩ := rules_at HR.out i hlt
      have hfil := filter_snoc Rs i hlt
      rw [hM] at hfil
      obtain ⟨r, hr⟩ : ∃ r, Rs[i] = r := ⟨_, rfl⟩
      rw [hr] at hc hfil
      have hokr := (HOK.out r (by rw [← hr]; exact List.getElem_mem hlt)).ext HE.out
      have hrg : wr.rangeAt b (off + i * 19) (encR r) := fun j v hv => (HE.out.cell (p := ⟨b, off + i * 19 + j, none⟩) hbb).trans (hc j v hv)
      obtain ⟨_, g2, c2, hs2⟩ := hokr.1.shape
      have k0 : wr.cell? ⟨b, off + i * 19, none⟩ = some (.string r.path) := hrg 0 _ rfl
      have k1 : wr.cell? ⟨b, off + i * 19 + 1, none⟩ = some (.bool r.ex) := hrg 1 _ rfl
      have k2 : wr.cell? ⟨b, off + i * 19 + 2, none⟩ = some (.slice g2 r.H.length c2) := by rw [← hs2]; exact hrg 2 _ rfl
      have HRG := hide hrg
      have HOKR := hide hokr
      have hiz : (i : Int) < Rs.length := by omega
      clear hrg hokr hc hM hs2 hr
      obtain ⟨q, hq⟩ : ∃ q, (r.path.toList == [47]) = q := ⟨_, rfl⟩
      have hq2 : (r.path.toList != [47]) = !q := by rw [← hq]; rfl
      have hmb : moreB r = (!q || r.ex || decide (0 < r.H.length)) := by
        unfold moreB
        rw [← hq, toL]
        rfl
      obtain ⟨ex', hex⟩ : ∃ x, r.ex = x := ⟨_, rfl⟩
      obtain ⟨p', hp'⟩ : ∃ x, r.path = x := ⟨_, rfl⟩
      obtain ⟨hl', hhl⟩ : ∃ x, r.H.length = x := ⟨_, rfl⟩
      rw [hex, hhl] at hmb
      rw [hex] at k1
      rw [hhl] at k2
      rw [hp'] at k0 hq hq2
      clear hex hp' hhl
      cases q with
      | false =>
        have HMB := hide (show moreB r = true by rw [hmb]; rfl)
        have HFIL := hide (show moreB r = true → (Rs.take (i + 1)).filter moreB = M ++ [r] from fun h => by rw [hfil, if_pos h])
        clear hmb hfil
        go_upto_region 7 with (fail)
        have hokr := HOKR.out
        have hrgr := HRG.out
        have HRK := hide (⟨rfl, hokr⟩ : r = r ∧ RuleOk wr r)
        refine wp_region_lit ?_
        refine wpList_plain rfl fun K hK => ?_
        go_simp
        refine hK _ _ ?_
        refine wpList_plain rfl fun K hK => ?_
        go_simp
        refine hK _ _ ?_
        refine wpList_plain rfl fun K hK => ?_
        go_simp
        refine hK _ _ ?_
        refine wpList_plain rfl fun K hK => ?_
        go_simp
        refine hK _ _ ?_
        refine wpList_load_mid rfl 38 (.tmp 55) rfl b (off + i * 19) rfl (encR r) dd hrgr hd1 hd2 Tryd.ruleSize ?_
        obtain ⟨path, ex, hv, H, pv, P, mi, ab, de, ti, pre, sv, S, dv, D, q0, q1, q2, q3, q4, q5, q6, rate⟩ := r
        obtain ⟨_, a1, c1, s1⟩ := hokr.1.shape
        obtain ⟨_, a2, c2, s2⟩ := hokr.2.1.shape
        obtain ⟨_, a3, c3, s3⟩ := hokr.2.2.1.shape
        obtain ⟨_, a4, c4, s4⟩ := hokr.2.2.2.shape
        simp only at s1 s2 s3 s4
        subst s1 s2 s3 s4
        clear hrgr hokr
        simp only [encR]
        refine wpList_plain rfl fun K hK => ?_
        go_simp
        refine hK _ _ ?_
        have hxa : Ext wr (wr.alloc (.cells (encR (⟨path, ex, .slice a1 H.length c1, H, .slice a2 P.length c2, P, mi, ab, de, ti, pre, .slice a3 S.length c3, S, .slice a4 D.length c4, D, q0, q1, q2, q3, q4, q5, q6, rate⟩ : RuleD)).toArray 38)) := (Below.refl _ _).alloc (Nat.le_refl _) _
        have hrl := rules_new1 wr (⟨path, ex, .slice a1 H.length c1, H, .slice a2 P.length c2, P, mi, ab, de, ti, pre, .slice a3 S.length c3, S, .slice a4 D.length c4, D, q0, q1, q2, q3, q4, q5, q6, rate⟩ : RuleD) 38
        generalize hrr : (⟨path, ex, .slice a1 H.length c1, H, .slice a2 P.length c2, P, mi, ab, de, ti, pre, .slice a3 S.length c3, S, .slice a4 D.length c4, D, q0, q1, q2, q3, q4, q5, q6, rate⟩ : RuleD) = r at hrl hxa HRK HFIL HMB
        refine wpList_append_sl (enc := encR) rfl _ _ _ rfl (w1.heap.size) 38 ir zr 19 232 Tryd.underlying23 hir0 hir1 hir2 hir3 hir4 (by decide) encR_len (.slice xa M.length xc) M.length (M.flatMap encR) rfl (by subst hrr; exact owns_ext HOW.out hxa) _ rfl [r] (by subst hrr; exact hrl) (fun x hx => by rw [List.mem_singleton.1 hx]; exact encR_one' _ HRK.out.2) (by have := HML.out; unfold maxLen; simp; omega) (by have := HML.out; simp; omega) (by subst hrr; exact Nat.le_trans (HE.out.size) hxa.size) ?_
        intro v7 w7 hown7 hg7
        have hk7 : Keeps (fun q => (Value.slice xa M.length xc).ownBlock = some q) wr w7 := (Keeps.of_ext (by subst hrr; exact hxa)).trans (Keeps.of_grown hg7 (fun q h => h))
        clear hrl hxa hg7
        refine wpList_plain rfl fun K hK => ?_
        go_simp
        refine hK _ _ ?_
        refine wpList_nil ?_
        have hown8 : w7.ownsRow w1.heap.size 38 19 v7 (M ++ [r]).length ((M ++ [r]).flatMap encR) := by simpa using hown7
        obtain ⟨x7, y7, hv7⟩ := owns_shape hown8
        subst hv7
        have hE7 : Ext w1 w7 := Keeps.ext HE.out hk7 (fun q hq => (HOW.out.lt q hq).1)
        have HO8 := hide hown8
        have HE7 := hide hE7
        clear hown8 hE7 hown7 hk7 hrr
        go_wp2
        go_roundw
        case rel => exact ⟨i + 1, M ++ [r], by go_num, by omega, HFIL.out HMB.out, HO8.out, HE7.out⟩
        case measure => simp [intOf] <;> omega
      | true =>
        cases ex' with
        | true =>
          have HMB := hide (show moreB r = true by rw [hmb]; rfl)
          have HFIL := hide (show moreB r = true → (Rs.take (i + 1)).filter moreB = M ++ [r] from fun h => by rw [hfil, if_pos h])
          clear hmb hfil
          go_upto_region 7 with (fail)
          have hokr := HOKR.out
          have hrgr := HRG.out
          have HRK := hide (⟨rfl, hokr⟩ : r = r ∧ RuleOk wr r)
          refine wp_region_lit ?_
          refine wpList_plain rfl fun K hK => ?_
          go_simp
          refine hK _ _ ?_
          refine wpList_plain rfl fun K hK => ?_
          go_simp
          refine hK _ _ ?_
          refine wpList_plain rfl fun K hK => ?_
          go_simp
          refine hK _ _ ?_
          refine wpList_plain rfl fun K hK => ?_
          go_simp
          refine hK _ _ ?_
          refine wpList_load_mid rfl 38 (.tmp 55) rfl b (off + i * 19) rfl (encR r) dd hrgr hd1 hd2 Tryd.ruleSize ?_
          obtain ⟨path, ex, hv, H, pv, P, mi, ab, de, ti, pre, sv, S, dv, D, q0, q1, q2, q3, q4, q5, q6, rate⟩ := r
          obtain ⟨_, a1, c1, s1⟩ := hokr.1.shape
          obtain ⟨_, a2, c2, s2⟩ := hokr.2.1.shape
          obtain ⟨_, a3, c3, s3⟩ := hokr.2.2.1.shape
          obtain ⟨_, a4, c4, s4⟩ := hokr.2.2.2.shape
          simp only at s1 s2 s3 s4
          subst s1 s2 s3 s4
          clear hrgr hokr
          simp only [encR]
          refine wpList_plain rfl fun K hK => ?_
          go_simp
          refine hK _ _ ?_
          have hxa : Ext wr (wr.alloc (.cells (encR (⟨path, ex, .slice a1 H.length c1, H, .slice a2 P.length c2, P, mi, ab, de, ti, pre, .slice a3 S.length c3, S, .slice a4 D.length c4, D, q0, q1, q2, q3, q4, q5, q6, rate⟩ : RuleD)).toArray 38)) := (Below.refl _ _).alloc (Nat.le_refl _) _
          have hrl := rules_new1 wr (⟨path, ex, .slice a1 H.length c1, H, .slice a2 P.length c2, P, mi, ab, de, ti, pre, .slice a3 S.length c3, S, .slice a4 D.length c4, D, q0, q1, q2, q3, q4, q5, q6, rate⟩ : RuleD) 38
          generalize hrr : (⟨path, ex, .slice a1 H.length c1, H, .slice a2 P.length c2, P, mi, ab, de, ti, pre, .slice a3 S.length c3, S, .slice a4 D.length c4, D, q0, q1, q2, q3, q4, q5, q6, rate⟩ : RuleD) = r at hrl hxa HRK HFIL HMB
          refine wpList_append_sl (enc := encR) rfl _ _ _ rfl (w1.heap.size) 38 ir zr 19 232 Tryd.underlying23 hir0 hir1 hir2 hir3 hir4 (by decide) encR_len (.slice xa M.length xc) M.length (M.flatMap encR) rfl (by subst hrr; exact owns_ext HOW.out hxa) _ rfl [r] (by subst hrr; exact hrl) (fun x hx => by rw [List.mem_singleton.1 hx]; exact encR_one' _ HRK.out.2) (by have := HML.out; unfold maxLen; simp; omega) (by have := HML.out; simp; omega) (by subst hrr; exact Nat.le_trans (HE.out.size) hxa.size) ?_
          intro v7 w7 hown7 hg7
          have hk7 : Keeps (fun q => (Value.slice xa M.length xc).ownBlock = some q) wr w7 := (Keeps.of_ext (by subst hrr; exact hxa)).trans (Keeps.of_grown hg7 (fun q h => h))
          clear hrl hxa hg7
          refine wpList_plain rfl fun K hK => ?_
          go_simp
          refine hK _ _ ?_
          refine wpList_nil ?_
          have hown8 : w7.ownsRow w1.heap.size 38 19 v7 (M ++ [r]).length ((M ++ [r]).flatMap encR) := by simpa using hown7
          obtain ⟨x7, y7, hv7⟩ := owns_shape hown8
          subst hv7
          have hE7 : Ext w1 w7 := Keeps.ext HE.out hk7 (fun q hq => (HOW.out.lt q hq).1)
          have HO8 := hide hown8
          have HE7 := hide hE7
          clear hown8 hE7 hown7 hk7 hrr
          go_wp2
          go_roundw
          case rel => exact ⟨i + 1, M ++ [r], by go_num, by omega, HFIL.out HMB.out, HO8.out, HE7.out⟩
          case measure => simp [intOf] <;> omega
        | false =>
          by_cases h0 : 0 < hl'
          · have h0z : (hl' : Int) > 0 := by omega
            have HMB := hide (show moreB r = true by rw [hmb, decide_eq_true h0]; rfl)
            have HFIL := hide (show moreB r = true → (Rs.take (i + 1)).filter moreB = M ++ [r] from fun h => by rw [hfil, if_pos h])
            clear hmb hfil
            go_upto_region 7 with (fail)
            have hokr := HOKR.out
            have hrgr := HRG.out
            have HRK := hide (⟨rfl, hokr⟩ : r = r ∧ RuleOk wr r)
            refine wp_region_lit ?_
            refine wpList_plain rfl fun K hK => ?_
            go_simp
            refine hK _ _ ?_
            refine wpList_plain rfl fun K hK => ?_
            go_simp
            refine hK _ _ ?_
            refine wpList_plain rfl fun K hK => ?_
            go_simp
            refine hK _ _ ?_
            refine wpList_plain rfl fun K hK => ?_
            go_simp
            refine hK _ _ ?_
            refine wpList_load_mid rfl 38 (.tmp 55) rfl b (off + i * 19) rfl (encR r) dd hrgr hd1 hd2 Tryd.ruleSize ?_
            obtain ⟨path, ex, hv, H, pv, P, mi, ab, de, ti, pre, sv, S, dv, D, q0, q1, q2, q3, q4, q5, q6, rate⟩ := r
            obtain ⟨_, a1, c1, s1⟩ := hokr.1.shape
            obtain ⟨_, a2, c2, s2⟩ := hokr.2.1.shape
            obtain ⟨_, a3, c3, s3⟩ := hokr.2.2.1.shape
            obtain ⟨_, a4, c4, s4⟩ := hokr.2.2.2.shape
            simp only at s1 s2 s3 s4
            subst s1 s2 s3 s4
            clear hrgr hokr
            simp only [encR]
            refine wpList_plain rfl fun K hK => ?_
            go_simp
            refine hK _ _ ?_
            have hxa : Ext wr (wr.alloc (.cells (encR (⟨path, ex, .slice a1 H.length c1, H, .slice a2 P.length c2, P, mi, ab, de, ti, pre, .slice a3 S.length c3, S, .slice a4 D.length c4, D, q0, q1, q2, q3, q4, q5, q6, rate⟩ : RuleD)).toArray 38)) := (Below.refl _ _).alloc (Nat.le_refl _) _
            have hrl := rules_new1 wr (⟨path, ex, .slice a1 H.length c1, H, .slice a2 P.length c2, P, mi, ab, de, ti, pre, .slice a3 S.length c3, S, .slice a4 D.length c4, D, q0, q1, q2, q3, q4, q5, q6, rate⟩ : RuleD) 38
            generalize hrr : (⟨path, ex, .slice a1 H.length c1, H, .slice a2 P.length c2, P, mi, ab, de, ti, pre, .slice a3 S.length c3, S, .slice a4 D.length c4, D, q0, q1, q2, q3, q4, q5, q6, rate⟩ : RuleD) = r at hrl hxa HRK HFIL HMB
            refine wpList_append_sl (enc := encR) rfl _ _ _ rfl (w1.heap.size) 38 ir zr 19 232 Tryd.underlying23 hir0 hir1 hir2 hir3 hir4 (by decide) encR_len (.slice xa M.length xc) M.length (M.flatMap encR) rfl (by subst hrr; exact owns_ext HOW.out hxa) _ rfl [r] (by subst hrr; exact hrl) (fun x hx => by rw [List.mem_singleton.1 hx]; exact encR_one' _ HRK.out.2) (by have := HML.out; unfold maxLen; simp; omega) (by have := HML.out; simp; omega) (by subst hrr; exact Nat.le_trans (HE.out.size) hxa.size) ?_
            intro v7 w7 hown7 hg7
            have hk7 : Keeps (fun q => (Value.slice xa M.length xc).ownBlock = some q) wr w7 := (Keeps.of_ext (by subst hrr; exact hxa)).trans (Keeps.of_grown hg7 (fun q h => h))
            clear hrl hxa hg7
            refine wpList_plain rfl fun K hK => ?_
            go_simp
            refine hK _ _ ?_
            refine wpList_nil ?_
            have hown8 : w7.ownsRow w1.heap.size 38 19 v7 (M ++ [r]).length ((M ++ [r]).flatMap encR) := by simpa using hown7
            obtain ⟨x7, y7, hv7⟩ := owns_shape hown8
            subst hv7
            have hE7 : Ext w1 w7 := Keeps.ext HE.out hk7 (fun q hq => (HOW.out.lt q hq).1)
            have HO8 := hide hown8
            have HE7 := hide hE7
            clear hown8 hE7 hown7 hk7 hrr
            go_wp2
            go_roundw
            case rel => exact ⟨i + 1, M ++ [r], by go_num, by omega, HFIL.out HMB.out, HO8.out, HE7.out⟩
            case measure => simp [intOf] <;> omega
          · have h0z : ¬ (hl' : Int) > 0 := by omega
            have HFIL := hide (show (Rs.take (i + 1)).filter moreB = M by rw [hfil, if_neg (by rw [hmb, decide_eq_false h0]; simp)])
            clear hmb hfil
            go_wp2
            go_roundw
            case rel => exact ⟨i + 1, M, by go_num, by omega, HFIL.out, HOW.out, HE.out⟩
            case measure => simp [intOf] <;> omega
    · obtain rfl : i = Rs.length := by omega
      rw [List.take_length] at hM
      have hMf : ∀ r ∈ M, Right r ∧ moreB r = true ∧ RuleOk w1 r := fun r hr => by
        rw [← hM] at hr
        obtain ⟨h1, h2⟩ := List.mem_filter.1 hr
        exact ⟨HRT.out r h1, h2, HOK.out r h1⟩
      have HMF := hide hMf
      clear hM hMf HRT HOK HR
      go_upto_region 9 with (fail)
      refine wp_region_lit ?_
      refine wpList_plain rfl fun K hK => ?_
      go_simp
      refine hK _ _ ?_
      refine wpList_plain rfl fun K hK => ?_
      go_simp
      refine (plain_any ⟨#[47]⟩ false wr).mono ?_
      rintro e w5 ⟨r, rfl, hrc, hor, E5⟩
      refine hK _ _ ?_
      have hor2 := hor
      obtain ⟨path, ex, hv, H, pv, P, mi, ab, de, ti, pre, sv, S, dv, D, q0, q1, q2, q3, q4, q5, q6, rate⟩ := r
      obtain ⟨a1, c1, s1⟩ := owns_shape hor.1
      obtain ⟨a2, c2, s2⟩ := owns_shape hor.2.1
      obtain ⟨a3, c3, s3⟩ := owns_shape hor.2.2.1
      obtain ⟨a4, c4, s4⟩ := owns_shape hor.2.2.2
      simp only at s1 s2 s3 s4
      subst s1 s2 s3 s4
      simp only [RuleD.val]
      clear hor
      refine wpList_plain rfl fun K hK => ?_
      go_simp
      refine hK _ _ ?_
      have hrl := rules_new1 w5 (⟨path, ex, .slice a1 H.length c1, H, .slice a2 P.length c2, P, mi, ab, de, ti, pre, .slice a3 S.length c3, S, .slice a4 D.length c4, D, q0, q1, q2, q3, q4, q5, q6, rate⟩ : RuleD) 38
      generalize hrr : (⟨path, ex, .slice a1 H.length c1, H, .slice a2 P.length c2, P, mi, ab, de, ti, pre, .slice a3 S.length c3, S, .slice a4 D.length c4, D, q0, q1, q2, q3, q4, q5, q6, rate⟩ : RuleD) = r at hrl hor2 hrc
      have hxa := (Below.refl w5.heap.size w5).alloc (Nat.le_refl _) (.cells (encR r).toArray 38)
      have hEx : Ext w1 (w5.alloc (.cells (encR r).toArray 38)) := Ext.trans HE.out (Ext.trans E5 hxa)
      refine wpList_append_sl (enc := encR) rfl _ _ _ rfl w1.heap.size 38 ir zr 19 232 Tryd.underlying23 hir0 hir1 hir2 hir3 hir4 (by decide) encR_len (.slice xa M.length xc) M.length (M.flatMap encR) rfl (by subst hrr; exact owns_ext HOW.out (Ext.trans E5 hxa)) _ rfl [r] (by subst hrr; exact hrl) (fun x hx => by rw [List.mem_singleton.1 hx]; exact encR_one r hor2) (by have := HML.out; unfold maxLen; simp; omega) (by have := HML.out; simp; omega) (by subst hrr; exact hEx.size) ?_
      intro v7 w7 hown7 hg7
      have hk7 : Keeps (fun q => (Value.slice xa M.length xc).ownBlock = some q) wr w7 := (Keeps.of_ext (Ext.trans E5 (by subst hrr; exact hxa))).trans (Keeps.of_grown hg7 (fun q h => h))
      have hE7 : Ext w1 w7 := Keeps.ext HE.out hk7 (fun q hq => (HOW.out.lt q hq).1)
      have hkr : Keeps (fun q => (Value.slice xa M.length xc).ownBlock = some q) w5 w7 := (Keeps.of_ext (by subst hrr; exact hxa)).trans (Keeps.of_grown hg7 (fun q h => h))
      have hnt : ∀ g, r.has g → ¬ (Value.slice xa M.length xc).ownBlock = some g := fun g hg e => by
        obtain ⟨cs, fz, hcs⟩ := ownsRow_kind (owns_ext HOW.out E5) g e
        have h1 := owns_type (owns_ext HOW.out E5) e hcs
        rcases hor2.type hg hcs with h | h | h <;> exact absurd (h1.symm.trans h) (by decide)
      have hor7 := hor2.keeps hkr hnt
      have hRr : Right r := right_core hrc plain_Right
      have hok7 : ∀ q ∈ M ++ [r], RuleOk w7 q ∧ RuleFit q := fun q hq => by
        rcases List.mem_append.1 hq with hq | hq
        · exact ⟨(HMF.out q hq).2.2.ext hE7, (HMF.out q hq).1.1⟩
        · rw [List.mem_singleton.1 hq]
          exact ⟨hor7.ok, hRr.1⟩
      have hne : nerr (M ++ [r]) 0 = 0 := nerr_right (fun q hq => by
        rcases List.mem_append.1 hq with hq | hq
        · exact (HMF.out q hq).1
        · rw [List.mem_singleton.1 hq]
          exact hRr) (by have := HML.out; simp; omega) 0 (by omega)
      have hown8 : w7.ownsRow w1.heap.size 38 19 v7 (M ++ [r]).length ((M ++ [r]).flatMap encR) := by simpa using hown7
      have hfnd := fun (p : List UInt8) (hp : isPath p = true) (D : List HeadD) => all_found (M := M) (rp := r) (fun q hq => ⟨(HMF.out q hq).2.1, (HMF.out q hq).1.2.2⟩) hrc hp D
      have hmp : ∃ Mp, M ++ [r] = Mp := ⟨_, rfl⟩
      obtain ⟨Mp, hMp⟩ := hmp
      have hget : ∀ j (hj : j < M.length), Mp[j]? = some M[j] := fun j hj => by rw [← hMp, List.getElem?_append_left hj, List.getElem?_eq_getElem hj]
      have hmpl : Mp.length = M.length + 1 := by rw [← hMp]; simp
      rw [hMp] at hok7 hne hown8 hfnd
      obtain ⟨x7, y7, hv7⟩ := owns_shape hown8
      subst hv7
      have hsl7 : Rules w7 (.slice x7 Mp.length y7) Mp := Sl.of_own' encR_len hown8
      have hnew := hnew_any Mp 0 _ w7 hsl7 hok7 (HM.out.ext (HE1.out.trans hE7))
      simp only [hne] at hnew
      have HNEW := hide hnew
      have HFND := hide hfnd
      have HGET := hide hget
      have HMPL := hide hmpl
      have HSL := hide hsl7
      have HOK7 := hide hok7
      have HE7 := hide (HE1.out.trans hE7)
      clear hnew hfnd hget hmpl hsl7 hok7 hne hown8 hRr hor7 hnt hkr hE7 hk7 hg7 hown7 hEx hxa hrl hor2 hrc hMp hrr E5 HOW HMF HE1
      refine wpList_plain rfl fun K hK => ?_
      go_simp
      refine hK _ _ ?_
      refine wpList_nil ?_
      go_wp2_with fail
      refine HNEW.out.mono ?_
      rintro e w8 ⟨E8, ⟨h, _⟩ | ⟨_, b2, Rs2, rfl, hT, hRs⟩⟩
      · exact absurd rfl h
      rw [← rowR_core hRs] at hT
      have HT := hide hT
      have HFC := hide (fun p D => (found_core hRs p D : found Rs2 p D = found Mp p D))
      have HE8 := hide (HE7.out.trans E8)
      have HSL8 := hide (HSL.out.ext E8)
      have HOK8 := hide (fun q hq => (HOK7.out q hq).1.ext E8)
      clear hT hRs HNEW E8 HSL HE7
      go_wp2_with fail
      refine (HHD.out _ HE8.out).mono ?_
      rintro e w9 ⟨v9, D, rfl, hD, hzD, E9⟩
      obtain ⟨_, x9, y9, rfl⟩ := hD.shape
      have HD := hide hD
      clear hD hzD
      go_wp2_with fail
      refine (HPA.out _).mono ?_
      rintro e w10 ⟨s, rfl, hsn, E10⟩
      have E810 := E9.trans E10
      have hpp := pathN_path (arN n 1000000)
      rw [← hsn] at hpp
      have hsz : SzB s := by
        unfold SzB
        have e : (bl s).length = s.size := by simp [bl]
        omega
      obtain ⟨k, hk1, hk2, hk3⟩ := HFND.out (bl s) hpp.1 D
      have hfind := find_any _ b2 Rs2 (rowR Rs2) s D (.slice x9 D.length y9) w10 (HT.out.ext E810) (fun x hx => rowR_mem hx) hsz (HM.out.ext (HE8.out.trans E810)) (HD.out.ext E10)
      have hfe : findI Rs2 (rowR Rs2) (bl s) D = some (k : Int) := (HFC.out (bl s) D).trans hk1
      rw [hfe] at hfind
      have HFI := hide hfind
      have HK2 := hide hk2
      have HK3 := hide hk3
      have HSZ := hide hsz
      have HE10 := hide (HE8.out.trans E810)
      have HSL10 := hide (HSL8.out.ext E810)
      have HOK10 := hide (fun q hq => (HOK8.out q hq).ext E810)
      have HD10 := hide (HD.out.ext E10)
      have hkl : (k : Int) ≤ 1000000 := by
        have h1 := find_lt hk1
        have h2 := HMPL.out
        have h3 := HML.out
        omega
      clear hfind hfe hk1 hk2 hk3 hsz hpp hsn HFC HFND HT HD E9 E10 E810 HE8 HSL8 HOK8
      go_wp2_with fail
      refine HFI.out.mono ?_
      rintro e w11 ⟨rfl, E11⟩
      have HE11 := hide (HE10.out.trans E11)
      have HSL11 := hide (HSL10.out.ext E11)
      have HOK11 := hide (fun q hq => (HOK10.out q hq).ext E11)
      have HD11 := hide (HD10.out.ext E11)
      clear E11 HFI HSL10 HOK10 HD10 HE10
      go_wp2_with fail
      go_loopw [17, 18] (fun v17 v18 wq => ∃ j : Nat, v18 = .int .i64 j ∧ j ≤ M.length ∧ v17 = .bool ((M.take j).any (fun r => fitR r (bl s) D)) ∧ Ext w11 wq) (fun _ i _ => M.length - (intOf i).toNat)
      case atStart => exact ⟨0, rfl, by omega, rfl, Below.refl _ _⟩
      case round =>
        obtain ⟨j, rfl, hj, rfl, hxq⟩ := hrel
        have HXQ := hide hxq
        clear hxq
        have hml5 := HML.out
        by_cases hjl : j < M.length
        · have hjz : (j : Int) < M.length := by omega
          have hsn : (M.take (j + 1)).any (fun r => fitR r (bl s) D) = ((M.take j).any (fun r => fitR r (bl s) D) || fitR M[j] (bl s) D) := by rw [take_snoc M j hjl, List.any_append]; simp
          cases hf : (M.take j).any (fun r => fitR r (bl s) D) with
          | true =>
            have HSN := hide (show (M.take (j + 1)).any (fun r => fitR r (bl s) D) = true by rw [hsn, hf]; rfl)
            clear hsn hf
            go_wp2
            go_roundw
            case rel => exact ⟨j + 1, by go_num, by omega, by rw [HSN.out], HXQ.out⟩
            case measure => simp [intOf] <;> omega
          | false =>
            have hmj : Mp[j]? = some M[j] := HGET.out j hjl
            have hmjl : j < Mp.length := by have := HMPL.out; omega
            have hmje : Mp[j] = M[j] := by rw [List.getElem?_eq_getElem hmjl] at hmj; exact Option.some.inj hmj
            obtain ⟨b5, o5, e5, hb5, hc5⟩ := rules_at (HSL11.out.ext HXQ.out) j hmjl
            rw [hmje] at hc5
            have hokq := (HOK11.out M[j] (by rw [← hmje]; exact List.getElem_mem hmjl)).ext HXQ.out
            obtain ⟨q, hq⟩ : ∃ q, M[j] = q := ⟨_, rfl⟩
            rw [hq] at hc5 hokq hsn
            obtain ⟨_, a5, c5, hs5⟩ := hokq.1.shape
            have k0 : wr.cell? ⟨b5, o5 + j * 19, none⟩ = some (.string q.path) := hc5 0 _ rfl
            have k1 : wr.cell? ⟨b5, o5 + j * 19 + 1, none⟩ = some (.bool q.ex) := hc5 1 _ rfl
            have k2 : wr.cell? ⟨b5, o5 + j * 19 + 2, none⟩ = some (.slice a5 q.H.length c5) := by rw [← hs5]; exact hc5 2 _ rfl
            have hfit := fits_any q.path s q.ex q.H D q.hv (.slice x9 D.length y9) wr HSZ.out (HM.out.ext (HE11.out.trans HXQ.out)) hokq.1 (HD11.out.ext HXQ.out)
            rw [hs5] at hfit
            have hfq : fitsB (bl q.path) q.ex q.H (bl s) D = fitR q (bl s) D := rfl
            rw [hfq] at hfit
            rw [hf, Bool.false_or] at hsn
            obtain ⟨f, hfe⟩ : ∃ f, fitR q (bl s) D = f := ⟨_, rfl⟩
            rw [hfe] at hfit hsn
            have HFT := hide hfit
            have HSN := hide hsn
            have hmpz : (j : Int) < Mp.length := by omega
            clear hfit hsn hfe hf hfq hs5 hc5 hokq hq hmj hmje
            subst e5
            generalize q.path = qp at *
            generalize q.ex = qx at *
            generalize q.H.length = qh at *
            go_wp2_with fail
            refine HFT.out.mono ?_
            rintro e w12 ⟨rfl, E12⟩
            go_wp2
            go_roundw
            case rel => exact ⟨j + 1, by go_num, by omega, by rw [HSN.out], HXQ.out.trans E12⟩
            case measure => simp [intOf] <;> omega
        · obtain rfl : j = M.length := by omega
          rw [List.take_length]
          have hlv := lives_any wr (HM.out.ext (HE11.out.trans HXQ.out))
          have HLV := hide hlv
          have HEq := hide (HE11.out.trans HXQ.out)
          clear hlv
          cases hf : M.any (fun r => fitR r (bl s) D) with
          | true =>
            have hne : ¬ (k : Int) = M.length := by have := HK2.out hf; omega
            have hnb : ((k : Int) == (M.length : Int)) = false := by simpa using hne
            clear hf
            go_wp2_with fail
            refine HLV.out.mono ?_
            rintro e w12 ⟨rfl, E12⟩
            go_wp2
            go_ret
            exact ⟨rfl, HEq.out.trans E12⟩
          | false =>
            have hne : (k : Int) = M.length := by have := HK3.out hf; omega
            clear hf
            go_wp2_with fail
            refine HLV.out.mono ?_
            rintro e w12 ⟨rfl, E12⟩
            go_wp2
            go_ret
            exact ⟨rfl, HEq.out.trans E12⟩
end Go.Proofs.YtlaaapfpchnmeaaDoor
