/- law08.RouteRow: the walk (printed by wip/gen_row2.py). -/
import Derived.StillTailTactics
import Derived.Deep.CutBlock
import Derived.Test.YtlaaapfpchnmeaaDoorLwMd
import Derived.Test.YtlaaapfpchnmeaaDoorLwRc
namespace Go.Proofs.YtlaaapfpchnmeaaDoor
open Go.ChangeShapes Go.WideShapes Go.ChangeAt Go.RowKit Go.Lib Go.Shelf
theorem drop_rev (Rs : List RuleD) (m : Nat) (h : m < Rs.length) : (Rs.drop m).reverse = (Rs.drop (m + 1)).reverse ++ [Rs[m]] := by
  rw [List.drop_eq_getElem_cons h, List.reverse_cons]
set_option maxRecDepth 100000 in
set_option maxHeartbeats 16000000 in
theorem row8_walk (L : List Int) (n : Int) (HN : List Int) (out : Int) (v hv : Value) (w : World) (hs : Ints w v L) (hL : ∀ x ∈ L, I64 x) (hn : I64 n) (hh : Ints w hv HN) (hH : ∀ x ∈ HN, I64 x) (hout : I64 out) (hm : MaxV w) :
    Calls Tryd.prog 4 #[v, .int .i64 n, hv, .int .i64 out] w (RowP w) := by
  obtain ⟨_, a, c, rfl⟩ := hs.shape
  obtain ⟨_, ah, ch, rfl⟩ := hh.shape
  obtain ⟨dd, hd1, hd2⟩ := Tryd.ruleDesc
  obtain ⟨ir, zr, hir0, hir1, hir2, hir3, hir4⟩ := info_partsR
  have HMD := hide (made_any L _ w hs hL hm)
  have HHD := hide (fun X (hX : Ext w X) => heads_any HN (.slice ah HN.length ch) X (hh.ext hX) hH)
  have HPA := hide (fun X => pathof_any n X hn)
  have HM := hide hm
  have HOUT := hide hout
  clear hs hL hh hH hm hn hout
  go_enter Tryd.func4, Tryd.ntmps4
  go_wp2_with fail
  refine HMD.out.mono ?_
  rintro e w1 ⟨b, v1, Rs, Rs2, B, rfl, hcore, hB, hown, -, hros, -, hT, hcc, E1⟩
  have hl5 := rules_len hcore
  have hright := rules_right hcore
  obtain ⟨xa, xc, rfl⟩ := owns_shape hown
  have hsl : Rules w1 (.slice xa Rs.length xc) Rs := Sl.of_own' encR_len hown
  have HSL := hide hsl
  have HOK := hide (fun r hr => (hros r hr).ok : ∀ r ∈ Rs, RuleOk w1 r)
  have HRT := hide hright
  have HT := hide hT
  have HFC := hide (fun p D => found_core hcc p D)
  have HE1 := hide E1
  clear hsl hright hT hcc E1 hown hros hcore hB HMD
  go_wp2_with fail
  refine (HHD.out _ HE1.out).mono ?_
  rintro e w2 ⟨v2, D, rfl, hD, hzD, E2⟩
  obtain ⟨_, x9, y9, rfl⟩ := hD.shape
  have HD := hide hD
  clear hD hzD HHD
  go_wp2_with fail
  refine (HPA.out _).mono ?_
  rintro e w3 ⟨s, rfl, hsn, E3⟩
  have hpp := pathN_path (arN n 1000000)
  rw [← hsn] at hpp
  have hsz : SzB s := by
    unfold SzB
    have e : (bl s).length = s.size := by simp [bl]
    omega
  obtain ⟨F, hF, hFl⟩ := found_lt Rs (bl s) D
  have hfind := find_any _ b Rs2 (rowR Rs2) s D (.slice x9 D.length y9) w3 (HT.out.ext (E2.trans E3)) (fun x hx => rowR_mem hx) hsz (HM.out.ext (HE1.out.trans (E2.trans E3))) (HD.out.ext E3)
  have hfe : findI Rs2 (rowR Rs2) (bl s) D = F.map (fun k : Nat => (k : Int)) := (HFC.out (bl s) D).trans hF
  rw [hfe] at hfind
  have HFI := hide hfind
  have HF := hide hF
  have HSZ := hide hsz
  have HE3 := hide (E2.trans E3)
  have HD3 := hide (HD.out.ext E3)
  clear hfind hfe hF hsz hpp hsn E2 E3 HT HFC HD HPA hFl
  go_wp2_with fail
  refine HFI.out.mono ?_
  rintro e w4 ⟨rfl, E4⟩
  have HE4 := hide (HE3.out.trans E4)
  have HD4 := hide (HD3.out.ext E4)
  clear E4 HFI HE3 HD3
  obtain ⟨at1, hat⟩ : ∃ z : Int, ((F.map (fun k : Nat => (k : Int))).getD 0) = z := ⟨_, rfl⟩
  obtain ⟨is1, his⟩ : ∃ z, (F.map (fun k : Nat => (k : Int))).isSome = z := ⟨_, rfl⟩
  have HAT := hide (show at1 = (F.getD 0 : Nat) by rw [← hat]; cases F <;> rfl)
  have HIS := hide (show is1 = F.isSome by rw [← his]; cases F <;> rfl)
  simp only [hat, his]
  clear hat his
  go_upto_block 0 with fail
  go_cut [15, 16] from 30 to 189 (fun s15 s16 w' => ∃ (a15 : Option Addr) (c15 : Nat) (al : Bool), s15 = .slice a15 Rs.reverse.length c15 ∧ s16 = .bool al ∧ Hid (al = false → ∀ i k, k < i → i < Rs.length → alikeB Rs i k = false) ∧ Rules w' (.slice a15 Rs.reverse.length c15) Rs.reverse ∧ Ext w4 w')
  case first =>
    go_wp2_with fail
    go_loopw [15, 16, 17] (fun v15 v16 v17 wr => ∃ (m : Nat) (M : List RuleD) (al : Bool) (j : Int), v17 = .int .i64 j ∧ j = (m : Int) - 1 ∧ m ≤ Rs.length ∧ M = (Rs.drop m).reverse ∧ v16 = .bool al ∧ Hid (al = false → ∀ i k, m ≤ i → k < i → i < Rs.length → alikeB Rs i k = false) ∧ wr.ownsRow w4.heap.size 38 19 v15 M.length (M.flatMap encR) ∧ Ext w4 wr) (fun _ _ i _ => (intOf i + 1).toNat)
    case atStart => exact ⟨Rs.length, [], false, _, rfl, rfl, Nat.le_refl _, by simp, rfl, (fun _ i k h1 h2 h3 => by omega), World.ownsRow_nil _ _ _ _, Below.refl _ _⟩
    case round =>
      obtain ⟨m, M, al, j, rfl, hj, hmn, hM, rfl, hal, hown, hext⟩ := hrel
      obtain ⟨ya, yc, rfl⟩ := owns_shape hown
      have hml : M.length ≤ 5 := by rw [hM]; simp; omega
      have HML := hide hml
      have HOW0 := hide hown
      have HE0 := hide hext
      have HM0 := hide hM
      have HAL0 := hide hal
      clear hown hext hml hM hal
      generalize wr = wo at *
      cases m with
      | zero =>
        have hj0 : ¬ j ≥ 0 := by omega
        clear hj
        have hMr : M = Rs.reverse := by rw [HM0.out]; rfl
        go_wp2
        go_meet
        case rel => exact ⟨ya, yc, al, by first | rw [hMr] | rw [List.length_reverse], rfl, fun h i k h1 h2 => HAL0.out h i k (Nat.zero_le _) h1 h2, by rw [← hMr]; exact Sl.of_own' encR_len HOW0.out, HE0.out⟩
      | succ m =>
        have hjm : j = (m : Int) := by omega
        subst hjm
        have hmr : m < Rs.length := by omega
        have hmrz : (m : Int) < Rs.length := by omega
        have hm0z : (m : Int) ≥ 0 := by omega
        obtain ⟨g, off, rfl, hgb, hcm⟩ := rules_at HSL.out m hmr
        obtain ⟨r, hr⟩ : ∃ r, Rs[m] = r := ⟨_, rfl⟩
        have hokr := HOK.out r (by rw [← hr]; exact List.getElem_mem hmr)
        rw [hr] at hcm
        have HCM := hide hcm
        have HOKM := hide hokr
        have hdr := drop_rev Rs m hmr
        rw [hr, ← HM0.out] at hdr
        have HMR := hide hdr.symm
        have hkr : keyAt Rs m = keyR r := keyAt_eq (by rw [List.getElem?_eq_getElem hmr, hr])
        have HKR := hide hkr
        obtain ⟨_, am, cm, hvm⟩ := hokr.1.shape
        have HVM := hide hvm
        clear hcm hokr hdr hkr hvm hr HM0 hj
        go_wp2_with fail
        go_loopw [16, 18] (fun v16 v18 wq => ∃ (k : Nat) (al2 : Bool), v18 = .int .i64 k ∧ k ≤ m ∧ v16 = .bool al2 ∧ Hid (al2 = false → al = false ∧ ∀ k', k' < k → alikeB Rs m k' = false) ∧ Ext wo wq) (fun _ i _ => m - (intOf i).toNat)
        case atStart => exact ⟨0, al, rfl, by omega, rfl, (fun h => ⟨h, fun k' h' => by omega⟩), Below.refl _ _⟩
        case round =>
          obtain ⟨k, al2, rfl, hk, rfl, hal2, hxq⟩ := hrel
          have HAL2 := hide hal2
          have HXQ := hide hxq
          clear hal2 hxq
          by_cases hkm : k < m
          · have hkmz : (k : Int) < m := by omega
            cases al2 with
            | true =>
              go_wp2_with fail
              go_quiet (fail)
              go_wp2
              go_roundw
              case rel => exact ⟨k + 1, true, by go_num, by omega, rfl, (fun h => by cases h), Below.drewN' HXQ.out _⟩
              case measure => simp [intOf] <;> omega
            | false =>
              have hkr' : k < Rs.length := by omega
              have hkrz : (k : Int) < Rs.length := by omega
              obtain ⟨g', off', eg, hgb', hck⟩ := rules_at HSL.out k hkr'
              cases eg
              obtain ⟨q, hq⟩ : ∃ q, Rs[k] = q := ⟨_, rfl⟩
              have hokq := HOK.out q (by rw [← hq]; exact List.getElem_mem hkr')
              rw [hq] at hck
              have hkq : keyAt Rs k = keyR q := keyAt_eq (by rw [List.getElem?_eq_getElem hkr', hq])
              obtain ⟨_, ak, ck, hvk⟩ := hokq.1.shape
              have hEw : Ext w1 wr := (HE4.out.trans HE0.out).trans HXQ.out
              have k0 : wr.cell? ⟨g, off + m * 19, none⟩ = some (.string r.path) := (hEw.cell (p := ⟨g, off + m * 19, none⟩) hgb).trans (HCM.out 0 _ rfl)
              have k1 : wr.cell? ⟨g, off + m * 19 + 1, none⟩ = some (.bool r.ex) := (hEw.cell (p := ⟨g, off + m * 19 + 1, none⟩) hgb).trans (HCM.out 1 _ rfl)
              have k2 : wr.cell? ⟨g, off + m * 19 + 2, none⟩ = some (.slice am r.H.length cm) := by rw [← HVM.out]; exact (hEw.cell (p := ⟨g, off + m * 19 + 2, none⟩) hgb).trans (HCM.out 2 _ rfl)
              have q0 : wr.cell? ⟨g, off + k * 19, none⟩ = some (.string q.path) := (hEw.cell (p := ⟨g, off + k * 19, none⟩) hgb).trans (hck 0 _ rfl)
              have q1 : wr.cell? ⟨g, off + k * 19 + 1, none⟩ = some (.bool q.ex) := (hEw.cell (p := ⟨g, off + k * 19 + 1, none⟩) hgb).trans (hck 1 _ rfl)
              have q2 : wr.cell? ⟨g, off + k * 19 + 2, none⟩ = some (.slice ak q.H.length ck) := by rw [← hvk]; exact (hEw.cell (p := ⟨g, off + k * 19 + 2, none⟩) hgb).trans (hck 2 _ rfl)
              have hcmp := fun X => cmp_any r.path q.path r.ex q.ex am ak r.H.length cm q.H.length ck X
              obtain ⟨z, hz⟩ : ∃ z, cmp3 (rk3 r.path r.ex r.H.length) (rk3 q.path q.ex q.H.length) = z := ⟨_, rfl⟩
              rw [hz] at hcmp
              have hab : alikeB Rs m k = (z == 0) := by
                unfold alikeB
                rw [HKR.out, hkq, ← hz]
                rfl
              have HCMP := hide hcmp
              have HAB := hide hab
              clear hcmp hab hz hvk hkq hck hokq hq hEw
              generalize r.path = rp at *
              generalize r.ex = rx at *
              generalize r.H.length = rh at *
              generalize q.path = qp at *
              generalize q.ex = qx at *
              generalize q.H.length = qh at *
              obtain ⟨zb, hzb⟩ : ∃ b, (z == 0) = b := ⟨_, rfl⟩
              have HZB := hide hzb
              go_upto_region 15 with (fail)
              go_still_tail 12, (by kernel_rfl)
              change wpList _ _ _ _ _ wr.drew
              have hEd : Ext wr wr.drew := (Below.refl _ _).drew
              clear k0 k1 k2 q0 q1 q2
              generalize wr.drew = w6 at *
              have HED := hide hEd
              clear hEd
              go_wp2_with fail
              refine (HCMP.out _).mono ?_
              rintro e w7 ⟨rfl, E7⟩
              have HE7 := hide (HXQ.out.trans (HED.out.trans E7))
              clear E7
              go_wp2
              go_roundw
              case rel => exact ⟨k + 1, zb, by go_num, by omega, by first | rfl | rw [HZB.out], (fun h => ⟨(HAL2.out (by first | rfl | trivial)).1, fun k' h' => by
                rcases Nat.lt_succ_iff_lt_or_eq.1 h' with h' | rfl
                · exact (HAL2.out (by first | rfl | trivial)).2 k' h'
                · rw [HAB.out, HZB.out]; exact h⟩), HE7.out⟩
              case measure => simp [intOf] <;> omega
          · obtain rfl : k = m := by omega
            have hal3 : al2 = false → ∀ i k', k ≤ i → k' < i → i < Rs.length → alikeB Rs i k' = false := fun h i k' h1 h2 h3 => by
              by_cases hik : i = k
              · subst hik
                exact (HAL2.out h).2 k' h2
              · exact HAL0.out (HAL2.out h).1 i k' (by omega) h2 h3
            have HAL3 := hide hal3
            have HEW := hide (HE0.out.trans HXQ.out)
            have hEw : Ext w1 wr := HE4.out.trans HEW.out
            have HOW := hide (owns_ext HOW0.out HXQ.out)
            have HOKR := hide (HOKM.out.ext hEw)
            have HRG := hide (show wr.rangeAt g (off + k * 19) (encR r) from fun j v hv => (hEw.cell (p := ⟨g, off + k * 19 + j, none⟩) hgb).trans (HCM.out j v hv))
            clear hal3 hEw HAL2 HAL0 HOW0 HVM HKR HXQ HE0 HOKM HCM
            go_upto_region 16 with (fail)
            have hokr := HOKR.out
            have hrgr := HRG.out
            have HRK := hide (⟨rfl, hokr⟩ : r = r ∧ RuleOk wr r)
            refine wp_region_lit ?_
            refine wpList_plain rfl fun K hK => ?_
            go_simp
            refine hK _ _ ?_
            refine wpList_plain rfl fun K hK => ?_
            go_simp
            refine hK _ _ ?_
            refine wpList_plain rfl fun K hK => ?_
            go_simp
            refine hK _ _ ?_
            refine wpList_plain rfl fun K hK => ?_
            go_simp
            refine hK _ _ ?_
            refine wpList_load_mid rfl 38 (.tmp 78) rfl g (off + k * 19) rfl (encR r) dd hrgr hd1 hd2 Tryd.ruleSize ?_
            obtain ⟨path, ex, hv, H, pv, P, mi, ab, de, ti, pre, sv, S, dv, D, q0, q1, q2, q3, q4, q5, q6, rate⟩ := r
            obtain ⟨_, a1, c1, s1⟩ := hokr.1.shape
            obtain ⟨_, a2, c2, s2⟩ := hokr.2.1.shape
            obtain ⟨_, a3, c3, s3⟩ := hokr.2.2.1.shape
            obtain ⟨_, a4, c4, s4⟩ := hokr.2.2.2.shape
            simp only at s1 s2 s3 s4
            subst s1 s2 s3 s4
            clear hrgr hokr
            simp only [encR]
            refine wpList_plain rfl fun K hK => ?_
            go_simp
            refine hK _ _ ?_
            have hxa : Ext wr (wr.alloc (.cells (encR (⟨path, ex, .slice a1 H.length c1, H, .slice a2 P.length c2, P, mi, ab, de, ti, pre, .slice a3 S.length c3, S, .slice a4 D.length c4, D, q0, q1, q2, q3, q4, q5, q6, rate⟩ : RuleD)).toArray 38)) := (Below.refl _ _).alloc (Nat.le_refl _) _
            have hrl := rules_new1 wr (⟨path, ex, .slice a1 H.length c1, H, .slice a2 P.length c2, P, mi, ab, de, ti, pre, .slice a3 S.length c3, S, .slice a4 D.length c4, D, q0, q1, q2, q3, q4, q5, q6, rate⟩ : RuleD) 38
            generalize hrr : (⟨path, ex, .slice a1 H.length c1, H, .slice a2 P.length c2, P, mi, ab, de, ti, pre, .slice a3 S.length c3, S, .slice a4 D.length c4, D, q0, q1, q2, q3, q4, q5, q6, rate⟩ : RuleD) = r at hrl hxa HRK HMR
            refine wpList_append_sl (enc := encR) rfl _ _ _ rfl (w4.heap.size) 38 ir zr 19 232 Tryd.underlying23 hir0 hir1 hir2 hir3 hir4 (by decide) encR_len (.slice ya M.length yc) M.length (M.flatMap encR) rfl (by subst hrr; exact owns_ext HOW.out hxa) _ rfl [r] (by subst hrr; exact hrl) (fun x hx => by rw [List.mem_singleton.1 hx]; exact encR_one' _ HRK.out.2) (by have := HML.out; unfold maxLen; simp; omega) (by have := HML.out; simp; omega) (by subst hrr; exact Nat.le_trans (HEW.out.size) hxa.size) ?_
            intro v7 w7 hown7 hg7
            have hk7 : Keeps (fun q => (Value.slice ya M.length yc).ownBlock = some q) wr w7 := (Keeps.of_ext (by subst hrr; exact hxa)).trans (Keeps.of_grown hg7 (fun q h => h))
            clear hrl hxa hg7
            refine wpList_plain rfl fun K hK => ?_
            go_simp
            refine hK _ _ ?_
            refine wpList_nil ?_
            have hown8 : w7.ownsRow w4.heap.size 38 19 v7 (M ++ [r]).length ((M ++ [r]).flatMap encR) := by simpa using hown7
            obtain ⟨x7, y7, hv7⟩ := owns_shape hown8
            subst hv7
            have hE7 : Ext w4 w7 := Keeps.ext HEW.out hk7 (fun q hq => (HOW.out.lt q hq).1)
            have HO8 := hide hown8
            have HE7 := hide hE7
            clear hown8 hE7 hown7 hk7 hrr
            go_wp2
            go_roundw
            case rel => exact ⟨k, M ++ [r], al2, _, rfl, rfl, by omega, HMR.out, rfl, HAL3.out, (by have h := HO8.out; rw [List.length_append] at h ⊢; exact h), HE7.out⟩
            case measure => simp [intOf] <;> omega

  case rest =>
    obtain ⟨a15, c15, al, rfl, rfl, hal, hB, hx⟩ := hcut
    have HAL := hide hal
    have HB := hide hB
    have HX := hide hx
    clear hal hB hx
    have HW := hide (HE4.out.trans HX.out)
    (try simp only [Exit.inBlock, Exit.then])
    apply_assumption
    exact of_frame190 _ rfl (row_tail9 w wc Rs D s out at1 is1 al _ xa x9 a15 xc y9 c15 F rfl rfl rfl rfl rfl rfl rfl rfl HAT.out HIS.out HF.out HAL.out (HSL.out.ext HW.out) HB.out (fun r hr => (HOK.out r hr).ext HW.out) HRT.out hl5 (HD4.out.ext HX.out) HSZ.out HOUT.out (HM.out.ext (HE1.out.trans HW.out)) (HE1.out.trans HW.out))
end Go.Proofs.YtlaaapfpchnmeaaDoor
