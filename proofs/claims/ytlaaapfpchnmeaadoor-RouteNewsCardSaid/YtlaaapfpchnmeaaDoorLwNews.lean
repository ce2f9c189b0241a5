/- law08.RouteNews: the walk (printed by wip/gen_lwnews.py). -/
import Derived.Deep.CutRange
import Derived.Test.YtlaaapfpchnmeaaDoorLwP
import Derived.Test.YtlaaapfpchnmeaaDoorBtC
namespace Go.Proofs.YtlaaapfpchnmeaaDoor
open Go.ChangeShapes Go.WideShapes Go.ChangeAt Go.RowKit Go.Lib Go.Shelf
/-- a row of rules of the call's own -/
structure NS (w W : World) (v : Value) (M : List RuleD) : Prop where
  own : W.ownsRow w.heap.size 38 19 v M.length (M.flatMap encR)
  rin : ∀ r ∈ M, RuleIn W r ∧ RuleFit r
  ext : Ext w W
set_option maxRecDepth 100000 in
set_option maxHeartbeats 16000000 in
theorem news_walk (L : List Int) (at1 how n : Int) (v : Value) (w : World) (hs : Ints w v L) (hL : ∀ x ∈ L, I64 x) (h1 : I64 at1) (h2 : I64 how) (h3 : I64 n) (hm : MaxV w) :
    Calls Tryd.prog 3 #[v, .int .i64 at1, .int .i64 how, .int .i64 n] w fun e w' => e = .returned (.bool true) ∧ Ext w w' := by
  obtain ⟨_, a, c, rfl⟩ := hs.shape
  obtain ⟨dd, hd1, hd2⟩ := Tryd.ruleDesc
  obtain ⟨ir, zr, hir0, hir1, hir2, hir3, hir4⟩ := info_partsR
  have HRULES := hide (rules_any L _ w hs hL)
  have HM := hide hm
  have HBT := hide (fun (r : RuleD) X (hi : RuleIn X r) (hf : RuleFit r) => bent_any r how n X hi hf h2 h3)
  have HA3 := hide (fun X => around_any at1 3 X h1 (by omega))
  have h3b := around_bd at1 3 (by omega)
  have HAL := hide (fun (m : Int) X (hm : 1 ≤ m ∧ m ≤ 100) => around_any at1 m X h1 (by omega))
  obtain ⟨a3, ha3⟩ : ∃ z, around at1 3 = z := ⟨_, rfl⟩
  rw [ha3] at HA3 h3b
  obtain ⟨t3, ht3⟩ : ∃ z, how.tmod 3 = z := ⟨_, rfl⟩
  obtain ⟨t5, ht5⟩ : ∃ z, how.tmod 5 = z := ⟨_, rfl⟩
  have hhow : -9223372036854775808 ≤ how ∧ how ≤ 9223372036854775807 := h2
  clear hs hL hm h1 h2 h3 ha3
  go_enter Tryd.func3, Tryd.ntmps3
  go_wp2_with fail
  refine HRULES.out.mono ?_
  rintro e w1 ⟨v1, Rs, rfl, hcore, hown1, hros, E1⟩
  have hlen5 := rules_len hcore
  have hright := rules_right hcore
  have hin1 : ∀ r ∈ Rs, RuleIn w1 r ∧ RuleFit r := fun r hr => ⟨(hros r hr).rin, (hright r hr).1⟩
  obtain ⟨xa, xc, rfl⟩ := owns_shape hown1
  have HNS := hide (NS.mk hown1 hin1 E1)
  clear hin1 hright E1 hcore hown1 hros HRULES
  go_upto_region 2 with (fail)
  go_cut [24] from 15 to 88 (fun s24 w' => s24 = .bool (decide (0 < Rs.length) && decide (t3 > 0)) ∧ w' = w1)
  case first =>
    by_cases hl : 0 < Rs.length
    · have hlz : (Rs.length : Int) > 0 := by omega
      have hld : decide (0 < Rs.length) = true := decide_eq_true hl
      go_wp2
      go_meet
      case rel => exact ⟨by rw [hld]; rfl, rfl⟩
    · have hlz : ¬ (Rs.length : Int) > 0 := by omega
      have hld : decide (0 < Rs.length) = false := decide_eq_false hl
      go_wp2
      go_meet
      case rel => exact ⟨by rw [hld]; rfl, rfl⟩
  case rest =>
    obtain ⟨rfl, rfl⟩ := hcut
    obtain ⟨B, hB⟩ : ∃ B, (decide (0 < Rs.length) && decide (t3 > 0)) = B := ⟨_, rfl⟩
    rw [hB]
    have hBl : B = true → 0 < Rs.length := fun h => by
      rw [h] at hB
      simp at hB
      omega
    have HBL := hide hBl
    clear hBl hB
    go_upto_if 24 with (fail)
    go_cut [9] from 15 to 88 (fun s9 w' => ∃ M, s9 = .slice xa M.length xc ∧ M.length ≤ 5 ∧ NS w w' (.slice xa M.length xc) M)
    case first =>
      cases B with
      | false =>
        go_wp2
        go_meet
        case rel => exact ⟨Rs, rfl, hlen5, HNS.out⟩
      | true =>
        have hl0 := HBL.out rfl
        obtain ⟨g, c', hv', -⟩ := owns_form HNS.out.own hl0
        cases hv'
        have hab := around_bd at1 (Rs.length : Int) (by omega)
        have hal := HAL.out Rs.length wc (by omega)
        obtain ⟨k, hk⟩ : ∃ k : Nat, around at1 Rs.length = k := Int.eq_ofNat_of_zero_le hab.1
        rw [hk] at hal hab
        have hkl : k < Rs.length := by omega
        have HAK := hide hal
        clear hal hk
        obtain ⟨r, hr⟩ : ∃ r, Rs[k] = r := ⟨_, rfl⟩
        have hrm : r ∈ Rs := by rw [← hr]; exact List.getElem_mem hkl
        have hri := HNS.out.rin r hrm
        have hsl : Rules wc (.slice (some ⟨g, 0, none⟩) Rs.length xc) Rs := Sl.of_own' encR_len HNS.out.own
        obtain ⟨b', o', e', _, hc'⟩ := rules_at hsl k hkl
        cases e'
        rw [hr] at hc'
        have hrg : wc.rangeAt g (k * 19) (encR r) := fun j v hv => by
          have := hc' j v hv
          rwa [Nat.zero_add] at this
        have HRG := hide hrg
        have HRI := hide hri
        clear hrg hri hc' hsl hrm hr
        go_wp2_with fail
        refine HAK.out.mono ?_
        rintro e w2 ⟨rfl, rfl⟩
        go_upto_region 4 with (fail)
        refine wp_region_lit ?_
        refine wpList_plain rfl fun K hK => ?_
        go_simp
        refine hK _ _ ?_
        refine wpList_plain rfl fun K hK => ?_
        go_simp
        refine hK _ _ ?_
        refine wpList_plain rfl fun K hK => ?_
        go_simp
        refine hK _ _ ?_
        refine wpList_plain rfl fun K hK => ?_
        go_simp
        refine hK _ _ ?_
        refine wpList_plain rfl fun K hK => ?_
        go_simp
        refine hK _ _ ?_
        refine wpList_load_mid rfl 38 (.tmp 33) rfl g (k * 19) (by first | rfl | simp) (encR r) dd HRG.out hd1 hd2 Tryd.ruleSize ?_
        refine wpList_plain rfl fun K hK => ?_
        go_simp
        refine hK _ _ ?_
        refine wpList_plain rfl fun K hK => ?_
        go_simp
        refine hK _ _ ?_
        refine wpList_plain rfl fun K hK => ?_
        go_simp
        refine (HBT.out r wc HRI.out.1 HRI.out.2).mono ?_
        rintro e w5 ⟨r', rfl, hin', hfit', E5⟩
        refine hK _ _ ?_
        refine wpList_plain rfl fun K hK => ?_
        go_simp
        refine hK _ _ ?_
        have hown5 := owns_ext HNS.out.own E5
        have hth := own_there hown5 rfl k hkl
        have hsz : (encR r').toArray.size = 19 := rfl
        refine wpList_store_mid rfl 38 (.tmp 38) (.tmp 37) rfl g (k * 19) (encR r').toArray (by first | rfl | simp) rfl hth Tryd.ruleSize (all_oneCell_toArray (encR_one' r' hin'.ok)) ?_
        refine wpList_nil ?_
        have hk5 := keeps_setCells g (encR r') (k * 19) w5
        have ho6 := own_setCells (encR r') (k * 19) w5 _ hown5
        rw [setL_rules r' Rs k hkl] at ho6
        show Exit.then _ _ _ _ (w5.setCells g (k * 19) (encR r'))
        simp only [Act.put]
        have hgb := (HNS.out.own.lt g rfl).1
        have hx : OnlyRules w5 (fun q => q = g) := fun q cs T f hq hT e => hT (owns_type hown5 (by rw [e]; rfl) hq)
        have hns : NS w (w5.setCells g (k * 19) (encR r')) (.slice (some ⟨g, 0, none⟩) (Rs.set k r').length xc) (Rs.set k r') := by
          refine ⟨by rw [List.length_set]; exact ho6, fun q hq => ?_, Keeps.ext (HNS.out.ext.trans E5) hk5 (fun q hq => by rw [hq]; exact hgb)⟩
          rcases List.mem_or_eq_of_mem_set hq with hq | rfl
          · exact ⟨((HNS.out.rin q hq).1.ext E5).keeps hk5 hx, (HNS.out.rin q hq).2⟩
          · exact ⟨hin'.keeps hk5 hx, hfit'⟩
        generalize w5.setCells g (k * 19) (encR r') = W6 at hns ⊢
        have HN6 := hide hns
        clear hns hx ho6 hk5 hth hown5 hin' hfit' E5
        go_wp2
        go_meet
        case rel => exact ⟨Rs.set k r', by rw [List.length_set], by rw [List.length_set]; exact hlen5, HN6.out⟩
    case rest =>
      obtain ⟨M0, rfl, hM5, hns0⟩ := hcut
      have HN0 := hide hns0
      have HM5 := hide hM5
      clear HNS HBL HBT hns0 hM5
      go_wp2_with fail
      go_loopw [9, 11] (fun v9 v11 wr => ∃ (i : Nat) (M : List RuleD), v11 = .int .i64 i ∧ i ≤ 22 ∧ M.length ≤ 5 + i ∧ wr.ownsRow w.heap.size 38 19 v9 M.length (M.flatMap encR) ∧ (∀ r ∈ M, RuleIn wr r ∧ RuleFit r) ∧ Ext w wr) (fun _ i _ => 22 - (intOf i).toNat)
      case atStart => exact ⟨0, M0, rfl, by omega, by have := HM5.out; omega, HN0.out.own, HN0.out.rin, HN0.out.ext⟩
      case round =>
        obtain ⟨i, M, rfl, hi, hml, hown, hin, hext⟩ := hrel
        obtain ⟨xa, xc, rfl⟩ := owns_shape hown
        have HML := hide hml
        have HOW := hide hown
        have HIN := hide hin
        have HE := hide hext
        have hmb : M.length ≤ 30 := by omega
        clear hown hext hml hin HN0 HM5
        go_upto_region 6 with (fail)
        go_cut [53] from 39 to 59 (fun s53 w' => s53 = .bool (decide (i < 22) && decide (t5 = 4) && decide ((M.length : Int) < 19 + a3)) ∧ w' = wr)
        case first =>
          by_cases hi2 : i < 22
          · have hiz : (i : Int) < 22 := by omega
            have hid : decide (i < 22) = true := decide_eq_true hi2
            by_cases h54 : t5 = 4
            · have h5d : decide (t5 = 4) = true := decide_eq_true h54
              go_wp2_with fail
              refine (HA3.out _).mono ?_
              rintro e w2 ⟨rfl, rfl⟩
              go_wp2
              go_meet
              case rel => exact ⟨by rw [hid, h5d]; rfl, rfl⟩
            · have h5d : decide (t5 = 4) = false := decide_eq_false h54
              have h5b : (t5 == 4) = false := by simpa using h54
              go_wp2
              go_meet
              case rel => exact ⟨by rw [hid, h5d]; rfl, rfl⟩
          · have hiz : ¬ (i : Int) < 22 := by omega
            have hid : decide (i < 22) = false := decide_eq_false hi2
            go_wp2
            go_meet
            case rel => exact ⟨by rw [hid]; rfl, rfl⟩
        case rest =>
          obtain ⟨rfl, rfl⟩ := hcut
          obtain ⟨B, hB⟩ : ∃ B, (decide (i < 22) && decide (t5 = 4) && decide ((M.length : Int) < 19 + a3)) = B := ⟨_, rfl⟩
          rw [hB]
          have hi22 : B = true → i < 22 := fun h => by
            rw [h] at hB
            simp at hB
            exact hB.1.1
          clear hB
          cases B with
          | true =>
            have hi2 := hi22 rfl
            clear hi22
            go_upto_region 8 with (fail)
            refine wp_region_lit ?_
            refine wpList_plain rfl fun K hK => ?_
            go_simp
            refine hK _ _ ?_
            refine wpList_plain rfl fun K hK => ?_
            go_simp
            refine (plain_any ⟨#[47]⟩ false wc).mono ?_
            rintro e w5 ⟨r, rfl, hrc, hor, E5⟩
            refine hK _ _ ?_
            have hor2 := hor
            obtain ⟨path, ex, hv, H, pv, P, mi, ab, de, ti, pre, sv, S, dv, D, q0, q1, q2, q3, q4, q5, q6, rate⟩ := r
            obtain ⟨a1, c1, s1⟩ := owns_shape hor.1
            obtain ⟨a2, c2, s2⟩ := owns_shape hor.2.1
            obtain ⟨a3, c3, s3⟩ := owns_shape hor.2.2.1
            obtain ⟨a4, c4, s4⟩ := owns_shape hor.2.2.2
            simp only at s1 s2 s3 s4
            subst s1 s2 s3 s4
            simp only [RuleD.val]
            clear hor
            refine wpList_plain rfl fun K hK => ?_
            go_simp
            refine hK _ _ ?_
            have hrl := rules_new1 w5 (⟨path, ex, .slice a1 H.length c1, H, .slice a2 P.length c2, P, mi, ab, de, ti, pre, .slice a3 S.length c3, S, .slice a4 D.length c4, D, q0, q1, q2, q3, q4, q5, q6, rate⟩ : RuleD) 38
            generalize hrr : (⟨path, ex, .slice a1 H.length c1, H, .slice a2 P.length c2, P, mi, ab, de, ti, pre, .slice a3 S.length c3, S, .slice a4 D.length c4, D, q0, q1, q2, q3, q4, q5, q6, rate⟩ : RuleD) = r at hrl hor2 hrc
            have hxa := (Below.refl w5.heap.size w5).alloc (Nat.le_refl _) (.cells (encR r).toArray 38)
            have hEx : Ext w (w5.alloc (.cells (encR r).toArray 38)) := Ext.trans HE.out (Ext.trans E5 hxa)
            refine wpList_append_sl (enc := encR) rfl _ _ _ rfl w.heap.size 38 ir zr 19 232 Tryd.underlying23 hir0 hir1 hir2 hir3 hir4 (by decide) encR_len (.slice xa M.length xc) M.length (M.flatMap encR) rfl (by subst hrr; exact owns_ext HOW.out (Ext.trans E5 hxa)) _ rfl [r] (by subst hrr; exact hrl) (fun x hx => by rw [List.mem_singleton.1 hx]; exact encR_one r hor2) (by have := HML.out; unfold maxLen; simp; omega) (by have := HML.out; simp; omega) (by subst hrr; exact hEx.size) ?_
            intro v7 w7 hown7 hg7
            have hk7 : Keeps (fun q => (Value.slice xa M.length xc).ownBlock = some q) wc w7 := (Keeps.of_ext (Ext.trans E5 (by subst hrr; exact hxa))).trans (Keeps.of_grown hg7 (fun q h => h))
            have hE7 : Ext w w7 := Keeps.ext HE.out hk7 (fun q hq => (HOW.out.lt q hq).1)
            have hkr : Keeps (fun q => (Value.slice xa M.length xc).ownBlock = some q) w5 w7 := (Keeps.of_ext (by subst hrr; exact hxa)).trans (Keeps.of_grown hg7 (fun q h => h))
            have hin7 : ∀ q ∈ M ++ [r], RuleIn w7 q ∧ RuleFit q := fun q hq => by
              rcases List.mem_append.1 hq with hq | hq
              · exact ⟨(HIN.out q hq).1.keeps hk7 (onlyRules_own HOW.out), (HIN.out q hq).2⟩
              · rw [List.mem_singleton.1 hq]
                exact ⟨hor2.rin.keeps hkr (onlyRules_own (owns_ext HOW.out E5)), (right_core hrc plain_Right).1⟩
            have hown8 : w7.ownsRow w.heap.size 38 19 v7 (M ++ [r]).length ((M ++ [r]).flatMap encR) := by simpa using hown7
            obtain ⟨x7, y7, hv7⟩ := owns_shape hown8
            subst hv7
            have HO8 := hide hown8
            have HE7 := hide hE7
            have HI7 := hide hin7
            clear hown8 hE7 hown7 hk7 hin7 hkr hEx hxa hrl hg7 hor2 hrc E5
            refine wpList_plain rfl fun K hK => ?_
            go_simp
            refine hK _ _ ?_
            refine wpList_nil ?_
            clear hrr
            go_wp2
            go_roundw
            case rel => exact ⟨i + 1, M ++ [r], by go_num, by omega, by have := HML.out; simp; omega, (by have h := HO8.out; rw [List.length_append] at h ⊢; exact h), HI7.out, HE7.out⟩
            case measure => simp [intOf] <;> omega
          | false =>
            clear hi22
            have hsl : Rules wc (.slice xa M.length xc) M := Sl.of_own' encR_len HOW.out
            have hok : ∀ r ∈ M, RuleOk wc r ∧ RuleFit r := fun r hr => ⟨(HIN.out r hr).1.ok, (HIN.out r hr).2⟩
            have hnew := hnew_any M 2 _ wc hsl hok (HM.out.ext HE.out)
            have hrn := fun X (hX : Ext wc X) => rnew_any M 2 _ X (hsl.ext hX) (fun r hr => ⟨(hok r hr).1.ext hX, (hok r hr).2⟩)
            have hlv := fun X (hX : Ext wc X) => lives_any X (HM.out.ext (HE.out.trans hX))
            obtain ⟨z, hz⟩ : ∃ z, nerr M 2 = z := ⟨_, rfl⟩
            simp only [hz] at hnew hrn
            have HNEW := hide hnew
            have HRN := hide hrn
            have HLV := hide hlv
            clear hnew hrn hlv hsl hok hz HIN HOW
            by_cases h0 : z = 0
            · subst h0
              go_wp2_with fail
              refine HNEW.out.mono ?_
              rintro e w8 ⟨E8, ⟨h, _⟩ | ⟨_, b2, Rs2, rfl, hT, hRs⟩⟩
              · exact absurd rfl h
              have hl2 : Rs2.length = M.length := core_len hRs
              have hlen := fun X (hX : Ext w8 X) => len_any _ b2 Rs2 (rowR M) X (hT.ext hX)
              rw [hl2] at hlen
              have HLE := hide hlen
              have HE8 := hide E8
              clear hlen hl2 hT hRs E8 HNEW
              go_wp2_with fail
              refine (HRN.out _ HE8.out).mono ?_
              rintro e w9 ⟨rfl, E9⟩
              have HE9 := hide E9
              clear E9
              go_wp2_with fail
              refine (HLE.out _ HE9.out).mono ?_
              rintro e w10 ⟨rfl, E10⟩
              have HE10 := hide (HE8.out.trans (HE9.out.trans E10))
              clear E10
              go_wp2_with fail
              refine (HLV.out _ HE10.out).mono ?_
              rintro e w11 ⟨rfl, E11⟩
              go_wp2
              go_ret
              exact ⟨rfl, HE.out.trans (HE10.out.trans E11)⟩
            · have hz1 : (z == 0) = false := by simpa using h0
              have hz2 : (z != 0) = true := by simpa using h0
              go_wp2_with fail
              refine HNEW.out.mono ?_
              rintro e w8 ⟨E8, ⟨_, rfl⟩ | ⟨h, _⟩⟩
              rotate_left
              · exact absurd h h0
              have HE8 := hide E8
              clear E8 HNEW
              go_wp2_with fail
              refine (HRN.out _ HE8.out).mono ?_
              rintro e w9 ⟨rfl, E9⟩
              have HE9 := hide (HE8.out.trans E9)
              clear E9
              go_wp2_with fail
              refine (HLV.out _ HE9.out).mono ?_
              rintro e w11 ⟨rfl, E11⟩
              go_wp2
              go_ret
              exact ⟨rfl, HE.out.trans (HE9.out.trans E11)⟩
end Go.Proofs.YtlaaapfpchnmeaaDoor
