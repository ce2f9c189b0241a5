/- bound.Pick. -/
import Derived.Shelf.SlicesE.IndexFunc
import Derived.Ground.SlgfProg
import Derived.Test.YtfmoiepjbkhjfaaRingX
import Derived.Test.YtfmoiepjbkhjfaaBndE
namespace Go.Proofs
open Go.Shelf
def Try.lIdx_ren : Go.Shelf.Ren := ⟨fun | 6 => 50 | n => n, fun | 22 => 22 | 23 => 3 | 25 => 76 | 3 => 3 | 0 => 0 | 4 => 4 | n => n, fun | n => n⟩
theorem Try.lIdx : Go.Proofs.SlLaysH.n6 Try.prog Try.lIdx_ren := {
  mixed := by kernel_rfl
  f6 := ⟨Try.f50.name, by decide, Try.func50.trans (congrArg some (by kernel_rfl))⟩
  t0 := Try.underlying0
  a0 := Try.isAgg0
  z0 := Try.sizeOf0
  v0 := Try.zeroValue0
  t3 := Try.underlying3
  a3 := Try.isAgg3
  z3 := Try.sizeOf3
  v3 := Try.zeroValue3
  t4 := Try.underlying4
  a4 := Try.isAgg4
  z4 := Try.sizeOf4
  v4 := Try.zeroValue4
  t22 := Try.underlying22
  a22 := Try.isAgg22
  z22 := Try.sizeOf22
  v22 := Try.zeroValue22
  a23 := Try.isAgg3
  z23 := Try.sizeOf3
  t25 := Try.underlying76
  a25 := Try.isAgg76
  z25 := Try.sizeOf76
  v25 := Try.zeroValue76 }
end Go.Proofs
namespace Go.Proofs.Ytfmoiepjbkhjfaa
open Go.ChangeShapes Go.WideShapes Go.ChangeAt Go.RowKit Go.Maps Go.Lib
abbrev N64 := {x : Int // I64 x}
instance : Inhabited N64 := ⟨⟨0, by decide⟩⟩
def subs (R : List Int) (h : ∀ x ∈ R, I64 x) : List N64 := R.pmap Subtype.mk h
theorem subs_len (R : List Int) (h : ∀ x ∈ R, I64 x) : (subs R h).length = R.length := by simp [subs]
theorem subs_at (R : List Int) (h : ∀ x ∈ R, I64 x) (j : Nat) (hj : j < R.length) : ((subs R h)[j]!).1 = R[j] := by
  have : j < (subs R h).length := by rw [subs_len]; exact hj
  rw [getElem!_pos _ j this]
  simp [subs]
theorem idx_find (R : List Int) (h : ∀ x ∈ R, I64 x) (g : Int → Bool) :
    (∃ k, ∃ hk : k < R.length, idxBy (fun _ (y : N64) => g y.1) ((subs R h).take R.length) default = (k : Int) ∧ R.find? g = some R[k]) ∨ (idxBy (fun _ (y : N64) => g y.1) ((subs R h).take R.length) default = -1 ∧ R.find? g = none) := by
  cases hf : R.find? g with
  | none =>
    refine .inr ⟨idxBy_miss _ _ _ _ (fun j hj => ?_), rfl⟩
    have := List.find?_eq_none.1 hf R[j] (List.getElem_mem hj)
    rw [subs_at R h j hj]; simpa using this
  | some b =>
    obtain ⟨hb, i, hi, rfl, hlt⟩ := List.find?_eq_some_iff_getElem.1 hf
    refine .inl ⟨i, hi, idxBy_hit _ _ _ i _ hi (by rw [subs_len]; exact Nat.le_refl _) ?_ (fun j hj => ?_), rfl⟩
    · rw [subs_at R h i hi]; exact hb
    · rw [subs_at R h j (by omega)]
      have := hlt j hj
      simpa using this
theorem clos10_any (f : Int → Option Int) (C : Int) (B1 B2 b n : Nat) (W : World) (h1 : W.cell? ⟨B1, 0, none⟩ = some (.map (some b))) (h2 : W.cell? ⟨B2, 0, none⟩ = some (.int .i64 C)) (hl : LoadsAt W b n f) (x : Int) (hx : I64 x) :
    Calls Try.prog 49 #[.int .i64 x, .pointer (some ⟨B1, 0, none⟩), .pointer (some ⟨B2, 0, none⟩)] W fun e w' => e = .returned (.bool (decide ((f x).getD 0 < C))) ∧ ∃ q, w' = W.drewN q := by
  obtain ⟨m, hm⟩ : ∃ m, (f x).getD 0 = m := ⟨_, rfl⟩
  have HX := hide hx
  clear hx
  go_enter Try.func49, Try.ntmps49
  go_wp2_with (at_lookup; refine wpList_loads_look _ rfl _ _ rfl b n f rfl hl x HX.out m hm rfl ?_)
  rw [hm]
  go_ret
  exact ⟨rfl, 0, rfl⟩
set_option maxRecDepth 100000 in
set_option maxHeartbeats 2000000 in
theorem idxf_any (R : List Int) (g : Int → Bool) (v : Value) (lb : Array Value) (w : World) (hs : Ints w v R) (h64 : ∀ x ∈ R, I64 x) (hpos : 0 < R.length)
    (hp : ∀ W : World, Ext w W → ∀ x, I64 x → Calls Try.prog 49 (#[.int .i64 x] ++ lb) W fun e w' => e = .returned (.bool (g x)) ∧ ∃ q, w' = W.drewN q) :
    Calls Try.prog 50 #[v, .func (.func 49) #[] lb] w fun e w' => ((∃ k, ∃ hk : k < R.length, e = .returned (.int .i64 (k : Int)) ∧ R.find? g = some R[k]) ∨ (e = .returned (.int .i64 (-1)) ∧ R.find? g = none)) ∧ Ext w w' := by
  obtain ⟨hl, a, cap, rfl⟩ := hs.shape
  obtain ⟨b, off, rfl, _⟩ := ints_at hs 0 hpos
  have eg : ∀ args w, (callFunc 49 args).run Try.prog w = .ok (.enter 49 args) w := enters_of Try.func49 (by kernel_rfl) rfl
  have hcon := AnyE.slices_IndexFunc Try.lIdx (fun y : N64 => .int .i64 y.1) (fun y => g y.1) 49 lb eg b off R.length cap (subs R h64) w
    (fun W x hW => hp W hW x.1 x.2) (by rw [subs_len]; exact Nat.le_refl _) (by omega) (fun j hj => by
      rw [subs_len] at hj
      obtain ⟨b', off', e, _, hc⟩ := ints_at hs j hj
      cases e
      show _ = some (Value.int .i64 ((subs R h64)[j]!).1)
      rw [subs_at R h64 j hj]; exact hc)
  change Calls Try.prog 50 _ _ _ at hcon
  refine hcon.mono ?_
  rintro e w' ⟨rfl, q, rfl⟩
  refine ⟨?_, Below.drewN' (Below.refl _ _) q⟩
  rcases idx_find R h64 g with ⟨k, hk, h1, h2⟩ | ⟨h1, h2⟩
  · exact .inl ⟨k, hk, by rw [h1], h2⟩
  · exact .inr ⟨by rw [h1], h2⟩
set_option maxRecDepth 100000 in
set_option maxHeartbeats 4000000 in
theorem pick_any (I S : List Int) (L : List (Int × Int)) (p0 : Nat) (key p : Int) (r u t : Value) (w : World) (hr : RingAt w r (ends I).length (pointsOf p0 I)) (hs : Ints w u S) (ht : Parts w t L)
    (hp0 : 0 < p0) (hIl : I.length ≤ 1000) (hIb : ∀ x ∈ I, I64 x) (hSl : S.length ≤ 1000) (hSb : ∀ x ∈ S, I64 x) (hLl : L.length ≤ 1000) (hL1 : ∀ x ∈ L, I64 x.1) (hL2 : ∀ x ∈ L, 0 ≤ x.2 ∧ x.2 ≤ 2000000) (hp : 0 ≤ p ∧ p ≤ 1100) :
    Calls Try.prog 30 #[r, .int .u64 key, u, t, .int .i64 p] w fun e w' => e = .returned (.tuple #[.int .i64 ((pickOf (cnt (rowOf key (pointsOf p0 I)) S) L p).getD 0), .bool (pickOf (cnt (rowOf key (pointsOf p0 I)) S) L p).isSome]) ∧ Ext w w' := by
  obtain ⟨_, a2, cap2, rfl⟩ := hs.shape
  obtain ⟨_, a3, cap3, rfl⟩ := ht.shape
  have HS := hide hs
  have HT := hide ht
  have hrow := rowOf_le key p0 hp0 I
  have hrb : ∀ x ∈ rowOf key (pointsOf p0 I), I64 x := fun x hx => hIb x ((rowOf_mem key p0 hp0 I x).1 hx)
  have hrowc : ∀ u : World, RingAt u r (ends I).length (pointsOf p0 I) → Calls Try.prog 19 #[r, .int .u64 key] u fun e w' => ∃ v, e = .returned v ∧ Ints w' v (rowOf key (pointsOf p0 I)) ∧ Ext u w' := fun u h => row_ints key hp0 h
  have hlb := loadI_bd L 2000000 (by omega) hL2
  have hLi : ∀ x ∈ L, I64 x.1 ∧ I64 x.2 := fun x hx => ⟨hL1 x hx, by have := hL2 x hx; unfold I64; omega⟩
  obtain ⟨RW, hRW⟩ : ∃ RW, rowOf key (pointsOf p0 I) = RW := ⟨_, rfl⟩
  rw [hRW] at hrow hrb hrowc
  have HRW := hide hRW
  have HRB := hide hrb
  have HRC := hide hrowc
  have HSB := hide hSb
  have HLI := hide hLi
  have HL2 := hide hL2
  have HR := hide hr
  clear hs ht hRW hrb hrowc hSb hLi hL1 hL2 hr hIb
  go_enter Try.func30, Try.ntmps30
  go_wp2_with fail
  refine (HRC.out _ HR.out).mono ?_
  rintro e w1 ⟨v1, rfl, h1, E1⟩
  go_wp2_with fail
  refine (counting_any RW S _ _ _ h1 (HS.out.ext E1) (by omega) hSl HRB.out HSB.out).mono ?_
  rintro e w2 ⟨v2, rfl, ho2, E2⟩
  have hcl : (cnt RW S).length ≤ 1000 := Nat.le_trans (List.length_filter_le _ _) (by omega)
  have hc64 : ∀ x ∈ cnt RW S, I64 x := fun x hx => HRB.out x (List.mem_filter.1 hx).1
  have h2 := own_ints_b ho2 (by omega)
  obtain ⟨R, hR⟩ : ∃ R, cnt RW S = R := ⟨_, rfl⟩
  rw [hR] at h2 hcl hc64
  obtain ⟨_, a4, cap4, rfl⟩ := h2.shape
  have H2 := hide h2
  have HC := hide hc64
  have HRR := hide hR
  have hsb := sumL_bd R L 2000000 (by omega) HL2.out
  have hl1 : (R.length : Int) ≤ 1000 := by omega
  clear ho2 h2 hR hc64 h1
  by_cases h0 : R.length = 0
  · have hnil : R = [] := List.eq_nil_of_length_eq_zero h0
    have hlb0 : ((R.length : Int) == 0) = true := by simp [h0]
    have hres : pickOf (cnt (rowOf key (pointsOf p0 I)) S) L p = none := by rw [HRW.out, HRR.out, hnil]; rfl
    have HRES := hide hres
    clear hres hnil h0
    go_wp2
    go_ret2
    exact ⟨by rw [HRES.out]; rfl, E1.trans E2⟩
  · have hlb0 : ((R.length : Int) == 0) = false := beq_eq_false_iff_ne.2 (by omega)
    go_wp2_with fail
    refine (loadsOf_any L _ _ ((HT.out.ext E1).ext E2) hLl HLI.out).mono ?_
    rintro e w3 ⟨rfl, hld3, E3⟩
    have hld := hld3.alloc (.cells #[.map (some w2.heap.size)] 74)
    have HLD := hide hld
    clear hld hld3
    have e3 : Ext w3 (w3.alloc (.cells #[.map (some w2.heap.size)] 74)) := (Below.refl _ w3).alloc (Nat.le_refl _) _
    have h4 := ((H2.out.ext E3).ext e3)
    have hb4 := heap_alloc_new w3 (.cells #[.map (some w2.heap.size)] 74)
    obtain ⟨w4, hw4⟩ : ∃ w4, w3.alloc (.cells #[.map (some w2.heap.size)] 74) = w4 := ⟨_, rfl⟩
    rw [hw4] at e3 h4 hb4 HLD
    have hcm : w4.cell? ⟨w3.heap.size, 0, none⟩ = some (.map (some w2.heap.size)) := by simp [World.cell?, hb4]
    have hs4 : w3.heap.size < w4.heap.size := (Array.getElem?_eq_some_iff.1 hb4).1
    have H4 := hide h4
    clear h4 hb4
    go_wp2_with fail
    clear hw4
    go_loopw [14, 32] (fun s i wr => ∃ k : Nat, k ≤ R.length ∧ i = .int .i64 k ∧ s = .int .i64 (sumL (R.take k) L) ∧ wr = w4)
      (fun _ i _ => R.length - (intOf i).toNat)
    case atStart => exact ⟨0, Nat.zero_le _, rfl, rfl, rfl⟩
    case round =>
      obtain ⟨k, hk, rfl, rfl, rfl⟩ := hrel
      by_cases hlt : k < R.length
      · obtain ⟨b, off, rfl, hbb, hc⟩ := ints_at H4.out k hlt
        have hx := HC.out _ (List.getElem_mem hlt)
        have hsn : sumL (R.take (k+1)) L = sumL (R.take k) L + loadI L R[k] := by rw [take_snoc R k hlt, sumL_snoc]
        have hsk := sumL_bd (R.take k) L 2000000 (by omega) HL2.out
        rw [List.length_take] at hsk
        obtain ⟨x, hxx⟩ : ∃ x, R[k] = x := ⟨_, rfl⟩
        rw [hxx] at hc hx hsn
        have hlx := hlb x
        have hgd : (loadF L x).getD 0 = loadI L x := rfl
        obtain ⟨y, hy⟩ : ∃ y, loadI L x = y := ⟨_, rfl⟩
        rw [hy] at hlx hsn hgd
        obtain ⟨s, hs⟩ : ∃ s, sumL (R.take k) L = s := ⟨_, rfl⟩
        rw [hs] at hsn hsk ⊢
        have HX := hide hx
        have HSN := hide hsn
        have HGD := hide hgd
        clear hx hsn hxx hy hs hgd
        go_wp2_with (at_lookup; refine wpList_loads_look _ rfl _ _ rfl w2.heap.size L.length _ rfl HLD.out x HX.out y HGD.out rfl ?_)
        go_roundw
        case rel => exact ⟨k + 1, hlt, by go_num, by rw [HSN.out], trivial⟩
        case measure => simp [intOf]; omega
      · obtain rfl : k = R.length := by omega
        rw [List.take_length]
        have hpk : pickOf (cnt (rowOf key (pointsOf p0 I)) S) L p = R.find? (fun x => decide (loadI L x < capI (sumL R L) R.length p)) := by rw [HRW.out, HRR.out]; rfl
        obtain ⟨s, hs⟩ : ∃ s, sumL R L = s := ⟨_, rfl⟩
        rw [hs] at hpk hsb ⊢
        have hcap : ∀ u : World, Calls Try.prog 24 #[.int .i64 s, .int .i64 R.length, .int .i64 p] u fun e w' => e = .returned (.int .i64 (capI s R.length p)) ∧ u = w' := fun u => cap_any s R.length p u (by omega) (by omega) hp
        obtain ⟨C, hC⟩ : ∃ C, capI s R.length p = C := ⟨_, rfl⟩
        rw [hC] at hpk hcap
        have HPK := hide hpk
        have HCAP := hide hcap
        clear hC hs hpk hcap
        go_wp2_with fail
        refine (HCAP.out _).mono ?_
        rintro e w' ⟨rfl, rfl⟩
        go_wp2_with fail
        have e4 : Ext wr (wr.alloc (.cells #[.int .i64 C] 3)) := (Below.refl _ wr).alloc (Nat.le_refl _) _
        have hb5 := heap_alloc_new wr (.cells #[.int .i64 C] 3)
        obtain ⟨w5, hw5⟩ : ∃ w5, wr.alloc (.cells #[.int .i64 C] 3) = w5 := ⟨_, rfl⟩
        rw [hw5] at e4 hb5 ⊢
        have hc5 : w5.cell? ⟨wr.heap.size, 0, none⟩ = some (.int .i64 C) := by simp [World.cell?, hb5]
        have hb6 : wr.heap.size < w5.heap.size := (Array.getElem?_eq_some_iff.1 hb5).1
        have h5 := H4.out.ext e4
        have hcm5 := (e4.cell (p := ⟨w3.heap.size, 0, none⟩) hs4).trans hcm
        have hs5 : w3.heap.size < w5.heap.size := Nat.lt_of_lt_of_le hs4 e4.size
        have hld5 := HLD.out.ext e4
        have hp5 : ∀ W : World, Ext w5 W → ∀ x, I64 x → Calls Try.prog 49 (#[.int .i64 x] ++ #[.pointer (some ⟨w3.heap.size, 0, none⟩), .pointer (some ⟨wr.heap.size, 0, none⟩)]) W fun e w' => e = .returned (.bool (decide (loadI L x < C))) ∧ ∃ q, w' = W.drewN q := fun W hW x hx =>
          clos10_any (loadF L) C w3.heap.size wr.heap.size w2.heap.size L.length W ((hW.cell (p := ⟨w3.heap.size, 0, none⟩) hs5).trans hcm5) ((hW.cell (p := ⟨wr.heap.size, 0, none⟩) hb6).trans hc5) (hld5.ext hW) x hx
        have hidx := idxf_any R (fun x => decide (loadI L x < C)) _ _ w5 h5 HC.out (by omega) hp5
        have H5 := hide h5
        clear hp5 hld5 h5 hw5 hb5
        refine hidx.mono ?_
        rintro e w9 ⟨⟨k, hk, rfl, hf⟩ | ⟨rfl, hf⟩, E9⟩
        · obtain ⟨b, off, rfl, hbb, hc⟩ := ints_at (H5.out.ext E9) k hk
          have hpk := HPK.out.trans hf
          obtain ⟨x, hxx⟩ : ∃ x, R[k] = x := ⟨_, rfl⟩
          rw [hxx] at hc hpk
          have HPK2 := hide hpk
          clear hf hpk hxx
          go_wp2_with fail
          go_ret2
          exact ⟨by rw [HPK2.out]; rfl, E1.trans (E2.trans (E3.trans (e3.trans (e4.trans E9))))⟩
        · have hpk := HPK.out.trans hf
          have HPK2 := hide hpk
          clear hf hpk
          go_wp2_with fail
          go_ret2
          exact ⟨by rw [HPK2.out]; rfl, E1.trans (E2.trans (E3.trans (e3.trans (e4.trans E9))))⟩
end Go.Proofs.Ytfmoiepjbkhjfaa
