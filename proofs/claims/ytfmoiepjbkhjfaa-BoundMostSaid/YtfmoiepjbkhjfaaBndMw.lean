/- BoundMost: the walk. -/
import Derived.Test.YtfmoiepjbkhjfaaBndMo
namespace Go.Proofs.Ytfmoiepjbkhjfaa
open Go.ChangeShapes Go.WideShapes Go.ChangeAt Go.RowKit Go.Maps Go.Shelf
theorem own_grow_b {X Y : World} {base : Nat} {e : TypeId} {s n : Nat} {v : Value} {xs : List Value} (h : X.ownsRow base e s v n xs) (he : Ext X Y) : Y.ownsRow base e s v n xs := by
  refine ⟨h.1, ?_⟩
  rcases h.2 with hn | ⟨g, cap, cur, rfl, hb, hgg, rest⟩
  · exact .inl hn
  · exact .inr ⟨g, cap, cur, rfl, hb, (he.block g (Array.getElem?_eq_some_iff.1 hgg).1).trans hgg, rest⟩
theorem own_at2 {w : World} {base n c : Nat} {a : Option Addr} {L : List (Int × Int)} {e : TypeId} (h : w.ownsRow base e 2 (.slice a n c) n (L.flatMap encP)) (hl : L.length ≤ 1000) (k : Nat) (x y : Int) (hk : L[k]? = some (x, y)) :
    ∃ g, a = some ⟨g, 0, none⟩ ∧ base ≤ g ∧ w.frozen? ⟨g, k * 2 + 1, none⟩ = false ∧ w.cell? ⟨g, k * 2, none⟩ = some (.int .i64 x) ∧ w.cell? ⟨g, k * 2 + 1, none⟩ = some (.int .i64 y) := by
  have hi := own_parts h (by omega)
  have hn : L.length = n := by have := h.1; rw [length_flatMap_enc encP_len'] at this; omega
  obtain ⟨hkl, hke⟩ := List.getElem?_eq_some_iff.1 hk
  rw [← hn] at hi
  obtain ⟨b, off, rfl, _, hc1, hc2⟩ := parts_at hi k hkl
  rw [hke] at hc1 hc2
  rcases h.2 with ⟨e, _⟩ | ⟨g, cap, cur, e, hb, hg, _⟩
  · cases e
  · cases e
    rw [Nat.zero_add] at hc1 hc2
    exact ⟨b, rfl, hb, h.frozenAt (k * 2 + 1), hc1, hc2⟩
set_option maxRecDepth 100000 in
set_option maxHeartbeats 8000000 in
theorem most_walk (l keys : List Int) (v u : Value) (percent : Int) (w : World) (h1 : Ints w v l) (h1i : ∀ x ∈ l, I64 x) (h3 : UInts w u keys) (h5 : I64 percent) :
    Calls Try.prog 10 #[v, u, .int .i64 percent] w fun e w' => e = .returned (.bool true) ∧ Ext w w' := by
  obtain ⟨il, hil0, hlz0, hlz1, hlz2⟩ := info_parts' Try.infoL
  have hof' : ∀ u : World, Ints u v l → ∃ p : Nat, (1 ≤ p ∧ p ≤ 8) ∧ Calls Try.prog 27 #[v, .int .i64 4, .int .u64 0] u fun e w' => ∃ B v', e = .returned (.tuple #[.pointer (some ⟨B, 0, none⟩), v']) ∧ RingAt w' (.pointer (some ⟨B, 0, none⟩)) (ends (idsI l)).length (pointsOf p (idsI l)) ∧ Ints w' v' (rowOf 0 (pointsOf p (idsI l))) ∧ Ext u w' := fun u h => of10r_any l 4 0 v u h h1i (by unfold I64; omega)
  obtain ⟨_, ax, cx, rfl⟩ := h1.shape
  obtain ⟨_, ay, cy, rfl⟩ := h3.shape
  have H1 := hide h1
  have H3 := hide h3
  have H1I := hide h1i
  have HOF := hide hof'
  have b1 := around_bd percent 101 (by omega)
  have har : ∀ u : World, Calls Try.prog 14 #[.int .i64 percent, .int .i64 101] u fun e w' => e = .returned (.int .i64 (around percent 101)) ∧ u = w' := fun u => around_any percent _ u h5 (by omega)
  obtain ⟨q, hq⟩ : ∃ q, around percent 101 = q := ⟨_, rfl⟩
  rw [hq] at b1 har
  have HAR := hide har
  have hil := idsI_len l
  have hnd := idsI_nodup l
  have h64 := idsI_64 l
  clear h1 h3 h1i hof' hq har
  go_enter Try.func10, Try.ntmps10
  go_wp2_with fail
  refine (ids_any l _ _ H1.out H1I.out).mono ?_
  rintro e w1 ⟨v1, rfl, ho1, E1⟩
  have hs1 := own_ints_b ho1 (by omega)
  obtain ⟨p0, hp0, hof⟩ := HOF.out w1 (H1.out.ext E1)
  have HOF2 := hide hof
  obtain ⟨_, as1, cs1, rfl⟩ := hs1.shape
  have HS1 := hide hs1
  clear ho1 hs1 hof
  go_wp2_with fail
  refine HOF2.out.mono ?_
  rintro e w2 ⟨B, v2, rfl, hr2, _, E2⟩
  have hpick : ∀ (u : World) (x y : Value) (key : Int) (L : List (Int × Int)), RingAt u (.pointer (Option.some ⟨B, 0, none⟩)) (ends (idsI l)).length (pointsOf p0 (idsI l)) → Ints u x (idsI l) → Parts u y L → L.length ≤ 1000 → (∀ x ∈ L, I64 x.1) → (∀ x ∈ L, 0 ≤ x.2 ∧ x.2 ≤ 2000000) → Calls Try.prog 30 #[.pointer (Option.some ⟨B, 0, none⟩), .int .u64 key, x, y, .int .i64 (100 + q)] u fun e w' => e = .returned (.tuple #[.int .i64 ((pickOf (cnt (rowOf key (pointsOf p0 (idsI l))) (idsI l)) L (100 + q)).getD 0), .bool (pickOf (cnt (rowOf key (pointsOf p0 (idsI l))) (idsI l)) L (100 + q)).isSome]) ∧ Ext u w' := fun u x y key L hr hs ht h1 h2 h3 =>
    pickI_any l (idsI l) L p0 key (100 + q) _ _ _ u hr hs ht (by omega) (by omega) (idsI_64 l) h1 h2 h3 (by omega)
  have HP := hide hpick
  have HR2 := hide hr2
  have HS2 := hide (HS1.out.ext E2)
  clear hr2 hpick HS1 HOF2 HOF
  obtain ⟨ids, hids⟩ : ∃ ids, idsI l = ids := ⟨_, rfl⟩
  rw [hids] at HS2 HP HR2 hil hnd h64
  have hilz : (ids.length : Int) ≤ 12 := by omega
  have HND := hide hnd
  have H64 := hide h64
  rw [hids] 
  clear hids hnd h64
  by_cases h0 : ids.length = 0
  · have hb0 : ((ids.length : Int) == 0) = true := by simp [h0]
    go_wp2_with fail
    refine (lives10_any _).mono ?_
    rintro e w7 ⟨rfl, E7⟩
    go_wp2_with fail
    go_ret
    exact ⟨rfl, E1.trans (E2.trans E7)⟩
  · have hpos : 0 < ids.length := by omega
    have hb0 : ((ids.length : Int) == 0) = false := beq_eq_false_iff_ne.2 (by omega)
    go_wp2_with fail
    refine (HAR.out _).mono ?_
    rintro e w3 ⟨rfl, rfl⟩
    have hs2 := E2.size
    go_wp2
    go_loopw [11, 12] (fun v i wr => ∃ k : Nat, k ≤ ids.length ∧ i = .int .i64 k ∧ wr.ownsRow w2.heap.size 56 2 v k (((ids.take k).map (fun x => (x, (0 : Int)))).flatMap encP) ∧ Ext w2 wr)
      (fun _ i _ => ids.length - (intOf i).toNat)
    case atStart => exact ⟨0, by omega, rfl, by simpa using World.ownsRow_nil _ _ _ _, Below.refl _ _⟩
    case round =>
      obtain ⟨k, hk, rfl, hown, hext⟩ := hrel
      by_cases hlt : k < ids.length
      · obtain ⟨b, off, rfl, hbb, hc⟩ := ints_at (HS2.out.ext hext) k hlt
        have hsz := hext.size
        have hsn : (ids.take (k+1)).map (fun x => (x, (0 : Int))) = (ids.take k).map (fun x => (x, (0 : Int))) ++ [(ids[k], 0)] := by rw [take_snoc ids k hlt, List.map_append]; rfl
        obtain ⟨x, hx⟩ : ∃ x, ids[k] = x := ⟨_, rfl⟩
        rw [hx] at hc hsn
        have HSN := hide hsn
        clear hsn hx
        go_wp2_with (at_builtin; refine wpList_append_own _ (by rfl) _ _ 47 (by rfl) _ 56 il _ 2 16 Try.underlying47 hil0 hlz0 hlz1 hlz2 rfl (by decide) _ k _ (by rfl) (hown.alloc _) ⟨wr.heap.size, 0, none⟩ 1 1 [.int .i64 x, .int .i64 0] (by rfl) (by rfl) (World.news_of_block (cs := #[.int .i64 x, .int .i64 0]) (t := 56) (fr := (0, 0)) (heap_alloc_new wr _)) (by simp [Value.oneCell']) (by unfold maxLen; omega) (by omega) (by simp; omega) ?_; intro v2 w2 hown2 hgrow2 _)
        go_roundw
        case rel => exact ⟨k + 1, by omega, by go_num, by rw [HSN.out, List.flatMap_append]; exact hown2, hext.app hown hgrow2⟩
        case measure => (simp [intOf]) <;> omega
      · obtain rfl : k = ids.length := by omega
        rw [List.take_length] at hown
        obtain ⟨a11, c11, rfl⟩ := own_shape hown
        have HO := hide hown
        have HE := hide hext
        have HS3 := hide (HS2.out.ext hext)
        have HR3 := hide (HR2.out.ext hext)
        clear hown hext
        have hst := dealt_start ids (100 + q) HND.out hpos
        have HDS := hide hst
        have hpk : ∀ (u : World) (y : Int) (k : Nat) (L : List (Int × Int)), k ≤ 1000 → Dealt ids (100 + q) k L → RingAt u (.pointer (Option.some ⟨B, 0, none⟩)) (ends ids).length (pointsOf p0 ids) → Ints u (.slice as1 ids.length cs1) ids → u.ownsRow w2.heap.size 56 2 (.slice a11 ids.length c11) ids.length (L.flatMap encP) → ∃ x, x ∈ ids ∧ loadI L x < capI k ids.length (100 + q) ∧ Calls Try.prog 30 #[.pointer (Option.some ⟨B, 0, none⟩), .int .u64 y, .slice as1 ids.length cs1, .slice a11 ids.length c11, .int .i64 (100 + q)] u fun e w' => e = .returned (.tuple #[.int .i64 x, .bool true]) ∧ Ext u w' := fun u y k L hk hd hr hs ho => by
          obtain ⟨x, hx1, hx2, hx3⟩ := deal_pick hd HND.out (by omega) hpos (by omega) hk y p0 (by omega)
          have hLl : L.length = ids.length := by rw [← hd.1]; simp
          have := HP.out u _ _ y L hr hs (own_parts ho (by omega)) (by omega) (fun z hz => H64.out _ (by rw [← hd.1]; exact List.mem_map.2 ⟨z, hz, rfl⟩)) (fun z hz => by have := hd.2.2 z hz; omega)
          rw [hx1] at this
          exact ⟨x, hx2, hx3, this⟩
        have HPK := hide hpk
        clear hst hpk
        go_wp2_with fail
        go_loopw [13, 14] (fun s i wr => ∃ k : Nat, k ≤ keys.length ∧ k ≤ 30 ∧ i = .int .i64 k ∧ s = .int .i64 k ∧ ∃ L, Dealt ids (100 + q) k L ∧ wr.ownsRow w2.heap.size 56 2 (.slice a11 ids.length c11) ids.length (L.flatMap encP) ∧ Ext w2 wr)
          (fun _ i _ => 30 - (intOf i).toNat)
        case atStart => exact ⟨0, by omega, by omega, rfl, rfl, _, HDS.out, HO.out, HE.out⟩
        case round =>
          obtain ⟨k, hk, hk30, rfl, rfl, L, hd, hown, hext⟩ := hrel
          have hLl : L.length = ids.length := by rw [← hd.1]; simp
          by_cases hlt : k < keys.length ∧ k < 30
          · obtain ⟨hlt, hlt30⟩ := hlt
            obtain ⟨b, off, rfl, hbb, hc⟩ := uints_at (((H3.out.ext E1).ext E2).ext hext) k hlt
            obtain ⟨y, hy⟩ : ∃ y, keys[k] = y := ⟨_, rfl⟩
            rw [hy] at hc
            obtain ⟨x, hxi, hxc, hcall⟩ := HPK.out _ y k L (by omega) hd (HR2.out.ext hext) (HS2.out.ext hext) hown
            have hdn := dealt_next hd HND.out (by omega) x hxi hxc hpos
            have hcap : ∀ u : World, Calls Try.prog 24 #[.int .i64 k, .int .i64 ids.length, .int .i64 (100 + q)] u fun e w' => e = .returned (.int .i64 (capI k ids.length (100 + q))) ∧ u = w' := fun u => cap_any _ _ _ u (by omega) (by omega) (by omega)
            obtain ⟨C, hC⟩ : ∃ C, capI k ids.length (100 + q) = C := ⟨_, rfl⟩
            rw [hC] at hxc hcap
            have HCALL := hide hcall
            have HCAP := hide hcap
            have HDN := hide hdn
            have HXC := hide hxc
            have HD := hide hd
            have HOWN := hide hown
            have hany := any_key L ids hd.1 x hxi
            have HANY := hide hany
            clear hy hcall hcap hdn hxc hxi hd hC hown hany
            go_wp2_with fail
            refine HCALL.out.mono ?_
            rintro e w5 ⟨rfl, E5⟩
            have hown5 := own_grow_b HOWN.out E5
            have HO5 := hide hown5
            have HE5 := hide (hext.trans E5)
            clear hown5
            go_wp2_with fail
            go_loopw [17, 18] (fun f i wr => ∃ j : Nat, j ≤ ids.length ∧ i = .int .i64 j ∧ f = .bool ((L.take j).any (fun y => y.1 == x)) ∧ wr.ownsRow w2.heap.size 56 2 (.slice a11 ids.length c11) ids.length ((bTo x L j).flatMap encP) ∧ Ext w2 wr)
              (fun _ i _ => ids.length - (intOf i).toNat)
            case atStart => exact ⟨0, by omega, rfl, by simp, by rw [bTo_zero]; exact HO5.out, HE5.out⟩
            case round =>
              obtain ⟨j, hj, rfl, rfl, hown, hextj⟩ := hrel
              by_cases hjl : j < ids.length
              · have hjL : j < L.length := by omega
                have hat := bTo_at x L j hjL
                have has := any_succ L x j hjL
                have hst := bTo_stay x L j hjL
                have hbu := bTo_bump x L j hjL
                have hnw := bTo_new x L j hjL
                have hdb := HD.out.2.2 _ (List.getElem_mem hjL)
                have hlo : L[j].1 = x → loadI L x = L[j].2 := fun h => by
                  have hm : (L[j].1, L[j].2) ∈ L := List.getElem_mem hjL
                  have := (loadF_mem L (by rw [HD.out.1]; exact HND.out) L[j].1 L[j].2).2 hm
                  rw [h] at this
                  unfold loadI; rw [this]; rfl
                obtain ⟨⟨z, c⟩, hz⟩ : ∃ z, L[j] = z := ⟨_, rfl⟩
                rw [hz] at hat has hst hdb hlo
                obtain ⟨g, rfl, hbg, hfz, hc1, hc2⟩ := own_at2 hown (by rw [bTo_len]; omega) j z c hat
                obtain ⟨t, ht⟩ : ∃ t, (L.take j).any (fun y => y.1 == x) = t := ⟨_, rfl⟩
                rw [ht] at has ⊢
                by_cases hzx : z = x
                · subst hzx
                  have hb := hbu c hz
                  have hn := hnw c hz
                  have hcc : c < C := by have e := hlo rfl; have h := HXC.out; rw [e] at h; exact h
                  have hstd := hown.stored (j * 2 + 1) (.int .i64 (c + 1))
                  rw [encP_set _ j z c (c + 1) hat, ← hb] at hstd
                  have hno := hstd.1
                  obtain ⟨g', eg, _, _, hn1, hn2⟩ := own_at2 hno (by rw [bTo_len]; omega) j z (c + 1) hn
                  cases eg
                  have hgt : ¬ C < c + 1 := by omega
                  have hsA : (L.take (j+1)).any (fun y => y.1 == z) = true := by rw [has]; simp
                  have HSA := hide hsA
                  have HNO := hide hno
                  have hgs := (hown.lt g rfl).1
                  clear hb hn hstd hno hbu hnw hst hlo has hz ht hat hsA hown
                  go_wp2
                  go_quiet (first | (go_at_call 24; refine Calls.quiet_of_same ((HCAP.out _).mono fun _ _ h => ⟨h.1, h.2.symm⟩)))
                  go_wp2
                  go_roundw
                  case rel => exact ⟨j + 1, hjl, by go_num, by rw [HSA.out], HNO.out, Below.drewN' (hextj.setCell (p := ⟨g, j * 2 + 1, none⟩) hgs _) _⟩
                  case measure => (simp [intOf]) <;> omega
                · have hne : (z == x) = false := by simp [hzx]
                  have hs1 := hst hzx
                  have hsA : (L.take (j+1)).any (fun y => y.1 == x) = t := by rw [has, hne]; simp
                  have HSA := hide hsA
                  have HS1' := hide hs1
                  clear hst hbu hnw hlo has hz ht hat hsA hs1 hzx
                  go_wp2
                  go_roundw
                  case rel => exact ⟨j + 1, hjl, by go_num, by rw [HSA.out], by rw [HS1'.out]; exact hown, hextj⟩
                  case measure => (simp [intOf]) <;> omega
              · obtain rfl : j = ids.length := by omega
                have e1 : L.take ids.length = L := by rw [← hLl, List.take_length]
                rw [e1, HANY.out]
                have e2 : bTo x L ids.length = L.map (bmp x) := by rw [← hLl, bTo_all]
                rw [e2] at hown
                clear e1 e2
                go_wp2
                go_roundw
                case rel => exact ⟨k + 1, hlt, hlt30, by go_num, by go_num, _, HDN.out, hown, hextj⟩
                case measure => (simp [intOf]) <;> omega
          · have hmb : 0 ≤ (k : Int) * (100 + q) ∧ (k : Int) * (100 + q) ≤ 30 * 200 := ⟨Int.mul_nonneg (by omega) (by omega), Int.le_trans (Int.mul_le_mul_of_nonneg_right (show (k : Int) ≤ 30 by omega) (by omega)) (Int.mul_le_mul_of_nonneg_left (by omega) (by omega))⟩
            have hup : ∀ u : World, Calls Try.prog 34 #[.int .i64 (k * (100 + q)), .int .i64 (100 * ids.length)] u fun e w' => e = .returned (.int .i64 (upI (k * (100 + q)) (100 * ids.length))) ∧ u = w' := fun u => fixUp_any _ _ u (by omega) (by omega)
            have hle : ∀ y ∈ L, 0 ≤ y.2 ∧ y.2 ≤ k ∧ y.2 ≤ upI (k * (100 + q)) (100 * ids.length) := hd.2.2
            obtain ⟨D, hD⟩ : ∃ D, upI (k * (100 + q)) (100 * ids.length) = D := ⟨_, rfl⟩
            rw [hD] at hup hle
            have HUP := hide hup
            have HLE := hide hle
            have HOWN := hide hown
            clear hup hle hD hd hown
            go_wp2
            all_goals
              go_loopw [19] (fun i wz => ∃ j : Nat, j ≤ ids.length ∧ i = .int .i64 j ∧ wz.ownsRow w2.heap.size 56 2 (.slice a11 ids.length c11) ids.length (L.flatMap encP) ∧ Ext w2 wz)
                (fun i _ => ids.length - (intOf i).toNat)
              case atStart => exact ⟨0, by omega, rfl, HOWN.out, hext⟩
              case round =>
                obtain ⟨j, hj, rfl, hown, hextj⟩ := hrel
                by_cases hjl : j < ids.length
                · have hjL : j < L.length := by omega
                  have hbd := HLE.out _ (List.getElem_mem hjL)
                  obtain ⟨⟨z, c⟩, hz⟩ : ∃ z, L[j] = z := ⟨_, rfl⟩
                  obtain ⟨g, rfl, hbg, hfz, hc1, hc2⟩ := own_at2 hown (by omega) j z c (by rw [List.getElem?_eq_getElem hjL, hz])
                  rw [hz] at hbd
                  obtain ⟨hbd1, hbd2, hbd3⟩ := hbd
                  have hgt : ¬ D < c := by show ¬ D < c; omega
                  have HOW := hide hown
                  clear hown hz
                  go_wp2
                  go_quiet (first | (go_at_call 34; refine Calls.quiet_of_same ((HUP.out _).mono fun _ _ h => ⟨h.1, h.2.symm⟩)))
                  go_wp2
                  go_roundw
                  case rel => exact ⟨j + 1, hjl, by go_num, HOW.out, Below.drewN' hextj _⟩
                  case measure => (simp [intOf]) <;> omega
                · obtain rfl : j = ids.length := by omega
                  go_wp2_with fail
                  refine (lives10_any _).mono ?_
                  rintro e w7 ⟨rfl, E7⟩
                  go_wp2_with fail
                  go_ret
                  exact ⟨rfl, E1.trans (E2.trans (hextj.trans E7))⟩
end Go.Proofs.Ytfmoiepjbkhjfaa
