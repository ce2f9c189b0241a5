/- The references' Loads and Pick. -/
import Derived.Test.YtfmoiepjbkhjfaaBndD
namespace Go.Proofs.Ytfmoiepjbkhjfaa
open Go.ChangeShapes Go.WideShapes Go.ChangeAt Go.RowKit
def amt (x : Int) : Int := if around x 1000000 % 23 = 5 then around x 1000000 else around x 1000000 / 9 % 6
def ldAt (l : List Int) (i : Nat) : Int × Int := ((idsI l).getD i 0, amt (l.getD i 0))
def ldUp (l : List Int) (k : Nat) : List (Int × Int) := (List.range k).map (ldAt l)
def loadsI (l : List Int) : List (Int × Int) := ldUp l (idsI l).length
theorem ldUp_succ (l : List Int) (k : Nat) : ldUp l (k+1) = ldUp l k ++ [ldAt l k] := by simp [ldUp, List.range_succ]
theorem ldUp_len (l : List Int) (k : Nat) : (ldUp l k).length = k := by simp [ldUp]
theorem amt_bd (x : Int) : 0 ≤ amt x ∧ amt x ≤ 1000000 := by
  have := around_bd x 1000000 (by omega)
  unfold amt; split <;> omega
theorem loadsI_bd (l : List Int) : ∀ x ∈ loadsI l, (1 ≤ x.1 ∧ x.1 ≤ 9) ∧ 0 ≤ x.2 ∧ x.2 ≤ 1000000 := by
  intro x hx
  simp only [loadsI, ldUp, List.mem_map, List.mem_range] at hx
  obtain ⟨i, hi, rfl⟩ := hx
  refine ⟨?_, amt_bd _⟩
  have : (idsI l).getD i 0 ∈ idsI l := by rw [List.getD_eq_getElem?_getD, List.getElem?_eq_getElem hi]; exact List.getElem_mem hi
  exact idsI_bd l _ this
theorem loadsI_len (l : List Int) : (loadsI l).length ≤ 12 := by rw [loadsI, ldUp_len]; exact (idsI_len l).2
theorem loadsI_fst (l : List Int) : (loadsI l).map Prod.fst = idsI l := by
  apply List.ext_getElem
  · simp [loadsI, ldUp]
  · intro i h1 h2
    simp [loadsI, ldUp, ldAt, h2]
theorem encP_len' (x : Int × Int) : (encP x).length = 2 := rfl
set_option maxRecDepth 100000 in
set_option maxHeartbeats 2000000 in
theorem loads_any (l : List Int) (v : Value) (w : World) (hs : Ints w v l) (hli : ∀ x ∈ l, I64 x) :
    Calls Try.prog 29 #[v] w fun e w' => ∃ v', e = .returned v' ∧ w'.ownsRow w.heap.size 56 2 v' (loadsI l).length ((loadsI l).flatMap encP) ∧ Ext w w' := by
  obtain ⟨hl', a, cap, rfl⟩ := hs.shape
  obtain ⟨i0, hi, hz0, hz1, hz2⟩ := info_parts' Try.infoL
  have HC := hide hs; clear hs
  have HL := hide hli; clear hli
  have hil := idsI_len l
  go_enter Try.func29, Try.ntmps29
  go_wp2_with fail
  refine (ids_any l _ _ HC.out HL.out).mono ?_
  rintro e w1 ⟨v1, rfl, ho1, E1⟩
  have hids := own_ints_b ho1 (by omega)
  obtain ⟨_, a1, c1, rfl⟩ := hids.shape
  have HIDS := hide hids
  have hz : w.heap.size ≤ w1.heap.size := E1.size
  clear ho1 hids
  go_wp2
  go_loopw [3, 5] (fun v i wr => ∃ k : Nat, k ≤ (idsI l).length ∧ i = .int .i64 k ∧ wr.ownsRow w1.heap.size 56 2 v k ((ldUp l k).flatMap encP) ∧ Ext w1 wr)
    (fun _ i _ => (idsI l).length - (intOf i).toNat)
  case atStart => exact ⟨0, Nat.zero_le _, rfl, by simpa [ldUp] using World.ownsRow_nil _ _ _ _, Below.refl _ _⟩
  case round =>
    obtain ⟨k, hk, rfl, hown, hext1⟩ := hrel
    have hext := E1.trans hext1
    by_cases hlt : k < (idsI l).length
    · obtain ⟨b, off, rfl, hbb, hc⟩ := ints_at (HIDS.out.ext hext1) k hlt
      have hkl : k < l.length := by omega
      obtain ⟨b2, off2, rfl, hbb2, hc2⟩ := ints_at (HC.out.ext hext) k hkl
      have hx : I64 l[k] := HL.out _ (List.getElem_mem hkl)
      have hsz := hext1.size
      have hbd := around_bd l[k] 1000000 (by omega)
      have hsn : ldUp l (k+1) = ldUp l k ++ [((idsI l)[k], amt l[k])] := by rw [ldUp_succ]; simp [ldAt, hlt, hkl]
      have ham : amt l[k] = if around l[k] 1000000 % 23 = 5 then around l[k] 1000000 else around l[k] 1000000 / 9 % 6 := rfl
      obtain ⟨x, hxx⟩ : ∃ x, l[k] = x := ⟨_, rfl⟩
      rw [hxx] at hc2 hx hbd hsn ham
      obtain ⟨y, hyy⟩ : ∃ y, (idsI l)[k] = y := ⟨_, rfl⟩
      rw [hyy] at hc hsn
      obtain ⟨n, hn⟩ : ∃ n, around x 1000000 = n := ⟨_, rfl⟩
      rw [hn] at hbd ham
      obtain ⟨q, hq⟩ : ∃ q, amt x = q := ⟨_, rfl⟩
      rw [hq] at hsn ham
      have HN := hide hn
      have HX := hide hx
      have HSN := hide hsn
      clear hxx hyy hn hx hq hsn
      have e1 : (n).tdiv 9 = n / 9 := Int.tdiv_eq_ediv_of_nonneg (by omega)
      have e2 : (n / 9).tmod 6 = n / 9 % 6 := Int.tmod_eq_emod_of_nonneg (by omega)
      have e3 : n.tmod 23 = n % 23 := Int.tmod_eq_emod_of_nonneg (by omega)
      by_cases h5 : n % 23 = 5
      · rw [if_pos h5] at ham
        subst ham
        have h5b : (q % 23 == 5) = true := by simp [h5]
        clear h5
        go_wp2_with (first
          | (go_at_call 14; refine (around_any x 1000000 _ HX.out (by omega)).mono ?_; rintro e w' ⟨rfl, rfl⟩; rw [HN.out])
          | (at_builtin; refine wpList_append_own _ (by rfl) _ _ 47 (by rfl) w1.heap.size 56 i0 _ 2 16 Try.underlying47 hi hz0 hz1 hz2 rfl (by decide) _ k _ (by rfl) (hown.alloc _) ⟨wr.heap.size, 0, none⟩ 1 1 [.int .i64 y, .int .i64 q] (by rfl) (by rfl) (World.news_of_block (cs := #[.int .i64 y, .int .i64 q]) (t := 56) (fr := (0, 0)) (heap_alloc_new wr _)) (by simp [Value.oneCell']) (by unfold maxLen; omega) (by omega) (by simp; omega) ?_; intro v2 w2 hown2 hgrow2 _))
        go_roundw
        case rel =>
          have e := hext1.app hown hgrow2
          exact ⟨k + 1, hlt, by go_num, by rw [HSN.out, List.flatMap_append]; exact hown2, e⟩
        case measure => simp [intOf]; omega
      · rw [if_neg h5] at ham
        subst ham
        have h5b : (n % 23 == 5) = false := by simp [h5]
        clear h5
        go_wp2_with (first
          | (go_at_call 14; refine (around_any x 1000000 _ HX.out (by omega)).mono ?_; rintro e w' ⟨rfl, rfl⟩; rw [HN.out])
          | (at_builtin; refine wpList_append_own _ (by rfl) _ _ 47 (by rfl) w1.heap.size 56 i0 _ 2 16 Try.underlying47 hi hz0 hz1 hz2 rfl (by decide) _ k _ (by rfl) (hown.alloc _) ⟨wr.heap.size, 0, none⟩ 1 1 [.int .i64 y, .int .i64 (n / 9 % 6)] (by rfl) (by rfl) (World.news_of_block (cs := #[.int .i64 y, .int .i64 (n / 9 % 6)]) (t := 56) (fr := (0, 0)) (heap_alloc_new wr _)) (by simp [Value.oneCell']) (by unfold maxLen; omega) (by omega) (by simp; omega) ?_; intro v2 w2 hown2 hgrow2 _))
        go_roundw
        case rel =>
          have e := hext1.app hown hgrow2
          exact ⟨k + 1, hlt, by go_num, by rw [HSN.out, List.flatMap_append]; exact hown2, e⟩
        case measure => simp [intOf]; omega
    · obtain rfl : k = (idsI l).length := by omega
      go_wp2
      go_ret
      refine ⟨_, rfl, ?_, hext⟩
      have : (loadsI l).length = (idsI l).length := ldUp_len _ _
      rw [this]; exact own_base_b hz hown
/-- the reference's pick -/
def sumL (R : List Int) (L : List (Int × Int)) : Int := (R.map (loadI L)).sum
def pickOf (R : List Int) (L : List (Int × Int)) (p : Int) : Option Int := R.find? (fun x => decide (loadI L x < capI (sumL R L) R.length p))
theorem loadI_bd (L : List (Int × Int)) (m : Int) (hm : 0 ≤ m) (h : ∀ x ∈ L, 0 ≤ x.2 ∧ x.2 ≤ m) (x : Int) : 0 ≤ loadI L x ∧ loadI L x ≤ m := by
  unfold loadI loadF
  cases hf : List.find? (fun y => y.1 == x) L with
  | none => simpa using hm
  | some q => simpa using h q (List.mem_of_find?_eq_some hf)
theorem sumL_bd (R : List Int) (L : List (Int × Int)) (m : Int) (hm : 0 ≤ m) (h : ∀ x ∈ L, 0 ≤ x.2 ∧ x.2 ≤ m) : 0 ≤ sumL R L ∧ sumL R L ≤ m * R.length := by
  unfold sumL
  induction R with
  | nil => simp
  | cons x R ih =>
    have := loadI_bd L m hm h x
    simp only [List.map_cons, List.sum_cons, List.length_cons]
    have e : m * ((R.length + 1 : Nat) : Int) = m * (R.length : Int) + m := by rw [Int.natCast_add, Int.mul_add]; simp
    omega
theorem sumL_snoc (R : List Int) (L : List (Int × Int)) (x : Int) : sumL (R ++ [x]) L = sumL R L + loadI L x := by simp [sumL]
theorem find_snoc (l : List Int) (g : Int → Bool) (k : Nat) (h : k < l.length) (h0 : (l.take k).find? g = none) : ((l.take (k+1)).find? g = if g l[k] then some l[k] else none) := by
  rw [take_snoc l k h, List.find?_append, h0]
  cases hg : g l[k] <;> simp [hg]
theorem find_take (l : List Int) (g : Int → Bool) (k : Nat) (c : Int) (h : (l.take k).find? g = some c) : l.find? g = some c := by
  have : (l.take k ++ l.drop k).find? g = some c := by rw [List.find?_append, h]; rfl
  rwa [List.take_append_drop] at this
theorem pickOf_cnt (row S : List Int) (L : List (Int × Int)) (p : Int) : pickOf (cnt row S) L p = row.find? (fun x => S.contains x && decide (loadI L x < capI (sumL (cnt row S) L) (cnt row S).length p)) := by
  unfold pickOf
  conv => lhs; arg 2; unfold cnt
  rw [List.find?_filter]
  congr 1
  funext x
  simp
set_option maxRecDepth 100000 in
set_option maxHeartbeats 2000000 in
theorem rpick_any (row S : List Int) (L : List (Int × Int)) (p : Int) (u v t : Value) (w : World) (hr : Ints w u row) (hs : Ints w v S) (ht : Parts w t L) (hrl : row.length ≤ 1000) (hL : ∀ x ∈ L, 0 ≤ x.2 ∧ x.2 ≤ 2000000) (hp : 0 ≤ p ∧ p ≤ 1100) :
    Calls Try.prog 31 #[u, v, t, .int .i64 p] w fun e w' => e = .returned (.tuple #[.int .i64 ((pickOf (cnt row S) L p).getD 0), .bool (pickOf (cnt row S) L p).isSome]) ∧ w = w' := by
  obtain ⟨_, a, cap, rfl⟩ := hr.shape
  obtain ⟨_, a2, cap2, rfl⟩ := hs.shape
  obtain ⟨_, a3, cap3, rfl⟩ := ht.shape
  have hl1 : (row.length : Int) ≤ 1000 := by omega
  have HR := hide hr
  have HS := hide hs
  have HT := hide ht
  have HL := hide hL
  clear hr hs ht hL
  go_enter Try.func31, Try.ntmps31
  go_wp2
  go_loopw [10, 11, 12] (fun n s i wr => ∃ k : Nat, k ≤ row.length ∧ i = .int .i64 k ∧ n = .int .i64 (cnt (row.take k) S).length ∧ s = .int .i64 (sumL (cnt (row.take k) S) L) ∧ wr = w)
    (fun _ _ i _ => row.length - (intOf i).toNat)
  case atStart => exact ⟨0, Nat.zero_le _, rfl, rfl, rfl, rfl⟩
  case round =>
    obtain ⟨k, hk, rfl, rfl, rfl, rfl⟩ := hrel
    by_cases hlt : k < row.length
    · obtain ⟨b, off, rfl, hbb, hc⟩ := ints_at HR.out k hlt
      have hcs := cnt_succ row S k hlt
      have hcl : (cnt (row.take k) S).length ≤ 1000 := Nat.le_trans (List.length_filter_le _ _) (by rw [List.length_take]; omega)
      have hsb := sumL_bd (cnt (row.take k) S) L 2000000 (by omega) HL.out
      obtain ⟨x, hxx⟩ : ∃ x, row[k] = x := ⟨_, rfl⟩
      rw [hxx] at hc hcs
      obtain ⟨F, hF⟩ : ∃ F, cnt (row.take k) S = F := ⟨_, rfl⟩
      rw [hF] at hcs hcl hsb ⊢
      have hlb := loadI_bd L 2000000 (by omega) HL.out x
      obtain ⟨s, hs⟩ : ∃ s, sumL F L = s := ⟨_, rfl⟩
      have hsn := sumL_snoc F L x
      rw [hs] at hsb hsn ⊢
      obtain ⟨m, hm⟩ : ∃ m, loadI L x = m := ⟨_, rfl⟩
      rw [hm] at hlb hsn
      have HM := hide hm
      have HSN := hide hsn
      have HS' := hide hs
      clear hxx hF hm hs hsn
      by_cases hin : S.contains x = true
      · rw [if_pos hin] at hcs
        have HCS := hide hcs; clear hcs
        go_wp2_with fail
        refine (has_any S x _ _ HS.out).mono ?_
        rintro e w' ⟨rfl, rfl⟩
        rw [hin]
        go_wp2_with fail
        refine (of10_any L x _ _ HT.out).mono ?_
        rintro e w' ⟨rfl, rfl⟩
        rw [HM.out]
        go_wp2
        go_roundw
        case rel => exact ⟨k + 1, hlt, by go_num, by rw [HCS.out, List.length_append]; go_num, by rw [HCS.out, HSN.out], trivial⟩
        case measure => simp [intOf]; omega
      · have hin' : S.contains x = false := by simpa using hin
        rw [if_neg hin] at hcs
        have HCS := hide hcs; clear hcs hin
        go_wp2_with fail
        refine (has_any S x _ _ HS.out).mono ?_
        rintro e w' ⟨rfl, rfl⟩
        rw [hin']
        go_wp2
        go_roundw
        case rel => exact ⟨k + 1, hlt, by go_num, by rw [HCS.out], by rw [HCS.out, HS'.out], trivial⟩
        case measure => simp [intOf]; omega
    · obtain rfl : k = row.length := by omega
      rw [List.take_length]
      have hpk := pickOf_cnt row S L p
      have hsb := sumL_bd (cnt row S) L 2000000 (by omega) HL.out
      have hcl : (cnt row S).length ≤ 1000 := Nat.le_trans (List.length_filter_le _ _) hrl
      have hpos : ∀ x, S.contains x = true → x ∈ row → 1 ≤ (cnt row S).length := fun x h1 h2 => List.length_pos_of_mem (List.mem_filter.2 ⟨h2, h1⟩)
      obtain ⟨R, hR⟩ : ∃ R, cnt row S = R := ⟨_, rfl⟩
      rw [hR] at hpk hsb hcl hpos ⊢
      obtain ⟨s, hs⟩ : ∃ s, sumL R L = s := ⟨_, rfl⟩
      rw [hs] at hpk hsb ⊢
      have hcap : ∀ u : World, 1 ≤ R.length → Calls Try.prog 25 #[.int .i64 s, .int .i64 R.length, .int .i64 p] u fun e w' => e = .returned (.int .i64 (capI s R.length p)) ∧ u = w' := fun u h => rcap_any s R.length p u (by omega) (by omega) hp
      obtain ⟨C, hC⟩ : ∃ C, capI s R.length p = C := ⟨_, rfl⟩
      rw [hC] at hpk hcap
      obtain ⟨g, hg⟩ : ∃ g, (fun x => S.contains x && decide (loadI L x < C)) = g := ⟨_, rfl⟩
      rw [hg] at hpk
      have HG := hide hg
      have hpk2 : pickOf (cnt row S) L p = row.find? g := by rw [hR]; exact hpk
      have HPK := hide hpk2
      have HCAP := hide hcap
      have HPOS := hide hpos
      clear hC hg hpk hpk2 hcap hpos hR hs
      go_wp2
      go_loopw [13] (fun i wr' => ∃ k : Nat, k ≤ row.length ∧ i = .int .i64 k ∧ (row.take k).find? g = none ∧ wr' = wr)
        (fun i _ => row.length - (intOf i).toNat)
      case atStart => exact ⟨0, Nat.zero_le _, rfl, by simp, rfl⟩
      case round =>
        obtain ⟨k, hk, rfl, hno, rfl⟩ := hrel
        by_cases hlt : k < row.length
        · obtain ⟨b, off, rfl, hbb, hc⟩ := ints_at HR.out k hlt
          have hcs := find_snoc row g k hlt hno
          have hft := find_take row g (k+1)
          have hmem : row[k] ∈ row := List.getElem_mem hlt
          have hgx : g row[k] = (S.contains row[k] && decide (loadI L row[k] < C)) := by rw [← HG.out]
          obtain ⟨x, hxx⟩ : ∃ x, row[k] = x := ⟨_, rfl⟩
          rw [hxx] at hc hcs hmem hgx
          obtain ⟨m, hm⟩ : ∃ m, loadI L x = m := ⟨_, rfl⟩
          rw [hm] at hgx
          have HM := hide hm
          have HFT := hide hft
          have HMEM := hide hmem
          clear hxx hm hno hft hmem
          by_cases hin : S.contains x = true
          · have hps := HPOS.out x hin HMEM.out
            by_cases hlc : m < C
            · have hgt : g x = true := by rw [hgx, hin]; simp [hlc]
              rw [hgt, if_pos rfl] at hcs
              have hres := HFT.out _ hcs
              rw [← HPK.out] at hres
              have HRES := hide hres
              clear hgx hcs hres hgt
              go_wp2_with fail
              refine (has_any S x _ _ HS.out).mono ?_
              rintro e w' ⟨rfl, rfl⟩
              rw [hin]
              go_wp2_with fail
              refine (of10_any L x _ _ HT.out).mono ?_
              rintro e w' ⟨rfl, rfl⟩
              rw [HM.out]
              go_wp2_with fail
              refine (HCAP.out _ hps).mono ?_
              rintro e w' ⟨rfl, rfl⟩
              go_wp2
              go_ret2
              exact ⟨by rw [HRES.out]; rfl, rfl⟩
            · have hgt : g x = false := by rw [hgx, hin]; simp; omega
              rw [hgt, if_neg (by simp)] at hcs
              have HCS := hide hcs
              clear hgx hcs hgt
              go_wp2_with fail
              refine (has_any S x _ _ HS.out).mono ?_
              rintro e w' ⟨rfl, rfl⟩
              rw [hin]
              go_wp2_with fail
              refine (of10_any L x _ _ HT.out).mono ?_
              rintro e w' ⟨rfl, rfl⟩
              rw [HM.out]
              go_wp2_with fail
              refine (HCAP.out _ hps).mono ?_
              rintro e w' ⟨rfl, rfl⟩
              go_wp2
              go_roundw
              case rel => exact ⟨k + 1, hlt, by go_num, HCS.out, trivial⟩
              case measure => simp [intOf]; omega
          · have hin' : S.contains x = false := by simpa using hin
            have hgt : g x = false := by rw [hgx, hin']; rfl
            rw [hgt, if_neg (by simp)] at hcs
            have HCS := hide hcs
            clear hgx hcs hgt hin
            go_wp2_with fail
            refine (has_any S x _ _ HS.out).mono ?_
            rintro e w' ⟨rfl, rfl⟩
            rw [hin']
            go_wp2
            go_roundw
            case rel => exact ⟨k + 1, hlt, by go_num, HCS.out, trivial⟩
            case measure => simp [intOf]; omega
        · obtain rfl : k = row.length := by omega
          rw [List.take_length] at hno
          have hres := HPK.out
          rw [hno] at hres
          have HRES := hide hres
          clear hno hres
          go_wp2
          go_ret2
          exact ⟨by rw [HRES.out]; rfl, rfl⟩
end Go.Proofs.Ytfmoiepjbkhjfaa
