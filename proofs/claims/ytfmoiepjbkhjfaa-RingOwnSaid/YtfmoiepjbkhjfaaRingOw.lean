/- RingOwn: the walk. -/
import Derived.Test.YtfmoiepjbkhjfaaRingLs
import Derived.Test.YtfmoiepjbkhjfaaApp
namespace Go.Proofs.Ytfmoiepjbkhjfaa
open Go.ChangeShapes Go.WideShapes Go.ChangeAt Go.RowKit Go.Sort Go.Shelf
theorem own_grow_ext {X Y : World} {base : Nat} {e : TypeId} {s n : Nat} {v : Value} {xs : List Value} (h : X.ownsRow base e s v n xs) (he : Ext X Y) : Y.ownsRow base e s v n xs := by
  refine ⟨h.1, ?_⟩
  rcases h.2 with hn | ⟨g, cap, cur, rfl, hb, hgg, rest⟩
  · exact .inl hn
  · exact .inr ⟨g, cap, cur, rfl, hb, (he.block g (Array.getElem?_eq_some_iff.1 hgg).1).trans hgg, rest⟩
theorem enc_set (zs : List Int) (k : Nat) (u : Int) : (zs.flatMap encI).set k (.int .i64 u) = (zs.set k u).flatMap encI := by
  rw [flat_encI, flat_encI, List.map_set]
theorem own_at {w : World} {base n c : Nat} {a : Option Addr} {zs : List Int} (h : w.ownsRow base 3 1 (.slice a n c) n (zs.flatMap encI)) (k : Nat) (hk : k < n) :
    ∃ g, a = some ⟨g, 0, none⟩ ∧ base ≤ g ∧ w.frozen? ⟨g, k, none⟩ = false ∧ ∃ z, w.cell? ⟨g, k, none⟩ = some (.int .i64 z) := by
  have hl : zs.length = n := by have := h.1; rw [length_flatMap_enc encI_len] at this; omega
  have hi := own_ints (zs := zs) h (by
    rcases h.2 with ⟨e, h0⟩ | ⟨g, cap, cur, e, _, _, hc, hm, _⟩
    · omega
    · unfold maxLen at hm; omega)
  rw [← hl] at hi
  obtain ⟨b, off, rfl, _, hc⟩ := ints_at hi k (by omega)
  rcases h.2 with ⟨e, _⟩ | ⟨g, cap, cur, e, hb, hg, _⟩
  · cases e
  · cases e
    rw [Nat.zero_add] at hc
    exact ⟨b, rfl, hb, h.frozenAt k, _, hc⟩
set_option maxRecDepth 100000 in
set_option maxHeartbeats 4000000 in
theorem own_walk (m : List Int) (v : Value) (key : Int) (w : World) (hs : Ints w v m) (hm : ∀ x ∈ m, I64 x) :
    Calls Try.prog 6 #[v, .int .u64 key] w fun e w' => e = .returned (.bool true) ∧ Ext w w' := by
  obtain ⟨i0, hi, hz0, hz1, hz2⟩ := info_parts' Try.infoI
  have HS := hide hs
  have HM := hide hm; clear hm
  obtain ⟨_, a, cap, rfl⟩ := hs.shape
  clear hs
  obtain ⟨p, hp, hp1, hp6⟩ := madeP_nat m
  have hlen := madeI_len m
  have hmade : ∀ u, Ints u (.slice a m.length cap) m → Calls Try.prog 13 #[.slice a m.length cap] u fun e w' => ∃ v', e = .returned (.tuple #[v', .int .i64 p]) ∧ w'.ownsRow u.heap.size 3 1 v' (madeI m).length ((madeI m).flatMap encI) ∧ Ext u w' := fun u hu =>
    (made_any m _ u hu HM.out).mono (by rintro e w' ⟨v', rfl, ho, he⟩; exact ⟨v', by rw [hp], ho, he⟩)
  have HMD := hide hmade
  obtain ⟨I, hI⟩ : ∃ I, madeI m = I := ⟨_, rfl⟩
  have hlen2 : I.length ≤ 8 := by rw [← hI]; exact hlen
  have hlenZ : (I.length : Int) ≤ 8 := by omega
  have HI := hide hI
  clear hmade hp hI hlen
  go_enter Try.func6, Try.ntmps6
  go_wp2_with fail
  refine (HMD.out _ HS.out).mono ?_
  rintro e w1 ⟨v1, rfl, h1, E1⟩
  rw [HI.out] at h1
  have hsrc := srcI_own h1 (by omega)
  have hin1 := own_ints h1 (by omega)
  obtain ⟨_, x1, c1, rfl⟩ := hin1.shape
  have H1 := hide hin1
  have HSRC := hide hsrc
  clear h1 hin1 hsrc
  go_wp2_with (at_builtin; refine wpList_append_src (by rfl) _ _ 22 (by rfl) w1.heap.size 3 i0 8 Try.underlying22 hi hz0 hz1 hz2 (.slice (some ⟨w1.heap.size, 0, none⟩) 0 0) 0 [] (by rfl) (World.ownsRow_made (size := 1) (e := 3) w1 #[] 0 (Nat.le_refl _) (by decide) (by rfl)) _ I (by rfl) (HSRC.out.ext ((Below.refl _ w1).alloc (Nat.le_refl _) _)) (by unfold maxLen; omega) (by omega) (by simp) ?_; intro v2 w2 hown2 hgrow2)
  have E2 : Ext w1 w2 := Below.grown (Below.alloc (Below.refl _ w1) (Nat.le_refl _) _) hgrow2 (by simp) (fun r hr => by simp [Value.ownBlock] at hr; omega)
  rw [Nat.zero_add, List.nil_append] at hown2
  obtain ⟨a2, c2, rfl⟩ := own_shape hown2
  have hin2 := own_ints hown2 (by omega)
  have HIN2 := hide hin2
  have hal : ∀ g, a2 = some ⟨g, 0, none⟩ → w1.heap.size ≤ g ∧ g < w2.heap.size := fun g e => hown2.lt g (by rw [e]; rfl)
  have HAL := hide hal
  clear hin2 hgrow2 hal
  go_wp2_with fail
  refine (new_fresh I _ p _ HIN2.out (by omega) (by omega)).mono ?_
  rintro e w3 ⟨r3, rfl, hr3, E3⟩
  have hown3 := own_grow_ext hown2 E3
  go_wp2_with fail
  refine (row_any key (by omega) hr3.at).mono ?_
  rintro e w4 ⟨v4, rfl, hw4, E4⟩
  have hrl := rowOf_le key p (by omega) I
  have hown4 := own_grow_ext hown3 E4
  have hr4 := hr3.ext E4
  have hrowc : ∀ (u : World) (r : Value), RingAt u r (ends I).length (pointsOf p I) → Calls Try.prog 19 #[r, .int .u64 key] u fun e w' => ∃ v, e = .returned v ∧ w'.ownsRow u.heap.size 3 1 v (rowOf key (pointsOf p I)).length ((rowOf key (pointsOf p I)).flatMap encI) ∧ Ext u w' := fun u r h => row_any key (by omega) h
  obtain ⟨R, hR⟩ : ∃ R, rowOf key (pointsOf p I) = R := ⟨_, rfl⟩
  rw [hR] at hw4 hrl hrowc
  have HRC := hide hrowc
  have HW4 := hide hw4
  have HO4 := hide hown4
  have HR4 := hide hr4
  have E24 := E2.trans (E3.trans E4)
  have hs2 := E2.size
  have hs3 := E3.size
  have hs4 := E4.size
  clear hR hrowc hw4 hown4 hr4 hown3 hown2 hr3
  go_wp2
  go_loopw [10] (fun i wr => ∃ k : Nat, k ≤ I.length ∧ i = .int .i64 k ∧ Ext w1 wr ∧ RingNew w2.heap.size wr r3 (ends I).length (pointsOf p I) ∧ wr.ownsRow w3.heap.size 3 1 v4 R.length (R.flatMap encI) ∧ ∃ zs : List Int, wr.ownsRow w1.heap.size 3 1 (.slice a2 I.length c2) I.length (zs.flatMap encI))
    (fun i _ => I.length - (intOf i).toNat)
  case atStart => exact ⟨0, Nat.zero_le _, rfl, E24, HR4.out, HW4.out, I, HO4.out⟩
  case round =>
    obtain ⟨k, hk, rfl, hext, hring, hwas, zs, hown⟩ := hrel
    by_cases hlt : k < I.length
    · obtain ⟨g, rfl, hbg, hfz, z, hc⟩ := own_at hown k hlt
      have hgg := HAL.out g rfl
      have hst := hown.stored k (.int .i64 77)
      rw [enc_set] at hst
      have HST := hide hst.1
      have HRG := hide hring
      have HWS := hide hwas
      have hgs := (hown.lt g rfl).2
      clear hst hring hwas hown
      go_wp2
      go_roundw
      case rel =>
        refine ⟨k + 1, hlt, by go_num, hext.setCell (p := ⟨g, k, none⟩) (by simp; omega) _, HRG.out.set g k _ (by omega), own_set HWS.out (B := g) (by omega) k _, _, HST.out⟩
      case measure => simp [intOf]; omega
    · obtain rfl : k = I.length := by omega
      have hrg := hring.at
      have HRG := hide hrg
      have HWS := hide hwas
      clear hring hwas hown hrg
      go_wp2_with fail
      refine (HRC.out _ _ HRG.out).mono ?_
      rintro e w6 ⟨v6, rfl, ho6, E6⟩
      obtain ⟨a6, c6, rfl⟩ := own_shape ho6
      have hrz : (R.length : Int) ≤ 8 := by omega
      have hs6 := E6.size
      have HO6 := hide ho6
      clear ho6
      go_wp2
      go_loopw [12] (fun i wx => ∃ k : Nat, k ≤ R.length ∧ i = .int .i64 k ∧ Ext wr wx ∧ ∃ zs : List Int, wx.ownsRow wr.heap.size 3 1 (.slice a6 R.length c6) R.length (zs.flatMap encI))
        (fun i _ => R.length - (intOf i).toNat)
      case atStart => exact ⟨0, Nat.zero_le _, rfl, E6, R, HO6.out⟩
      case round =>
        obtain ⟨k, hk, rfl, hext2, zs2, hown⟩ := hrel
        by_cases hlt : k < R.length
        · obtain ⟨g, rfl, hbg, hfz, z, hc⟩ := own_at hown k hlt
          have hst := hown.stored k (.int .i64 78)
          rw [enc_set] at hst
          have HST := hide hst.1
          clear hst hown
          go_wp2
          go_roundw
          case rel => exact ⟨k + 1, hlt, by go_num, hext2.setCell (p := ⟨g, k, none⟩) hbg _, _, HST.out⟩
          case measure => simp [intOf]; omega
        · obtain rfl : k = R.length := by omega
          have hwi := (own_ints HWS.out (by omega)).ext hext2
          have HWI := hide hwi
          have hri := HRG.out.ext hext2
          have HRI := hide hri
          have H1x := hide ((H1.out.ext hext).ext hext2)
          clear hown hwi hri
          go_wp2_with fail
          refine (new_any I _ p _ H1x.out (by omega) (by omega)).mono ?_
          rintro e w7 ⟨r7, rfl, hr7, E7⟩
          go_wp2_with fail
          refine (HRC.out _ _ (HRI.out.ext E7)).mono ?_
          rintro e w8 ⟨v8, rfl, ho8, E8⟩
          have h8 := own_ints ho8 (by omega)
          clear ho8
          go_wp2_with fail
          refine (sameInts_any _ _ _ _ _ h8 ((HWI.out.ext E7).ext E8)).mono ?_
          rintro e w9 ⟨rfl, E9⟩
          rw [sameInts_self]
          go_wp2_with fail
          refine (HRC.out _ _ ((hr7.ext E8).ext E9)).mono ?_
          rintro e w10 ⟨v10, rfl, ho10, E10⟩
          have h10 := own_ints ho10 (by omega)
          clear ho10
          go_wp2_with fail
          refine (sameInts_any _ _ _ _ _ h10 ((((HWI.out.ext E7).ext E8).ext E9).ext E10)).mono ?_
          rintro e w11 ⟨rfl, E11⟩
          rw [sameInts_self]
          go_wp2_with fail
          refine (lives_any _).mono ?_
          rintro e w12 ⟨rfl, E12⟩
          go_wp2_with fail
          go_ret
          exact ⟨rfl, E1.trans (hext.trans (hext2.trans (E7.trans (E8.trans (E9.trans (E10.trans (E11.trans E12)))))))⟩
end Go.Proofs.Ytfmoiepjbkhjfaa
