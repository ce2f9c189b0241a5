/- The reference's Row of a ring. -/
import Derived.Test.YtoncfogihiapiaaChW
namespace Go.Proofs.Ytoncfogihiapiaa
open Go.ChangeShapes Go.WideShapes Go.ChangeAt Go.RowKit Go.Maps Go.Shelf
def encO (p : Int × Int) : List Value := [.int .i64 p.1, .int .u64 p.2]
theorem encO_len (x : Int × Int) : (encO x).length = 2 := rfl
theorem encO_one (L : List (Int × Int)) : ∀ u ∈ L.flatMap encO, u.oneCell' = true := by
  intro u hu
  obtain ⟨x, _, hx⟩ := List.mem_flatMap.1 hu
  simp [encO] at hx
  rcases hx with rfl | rfl <;> rfl
/-- a slice whose cells read so: nil, or with cells -/
def SrcG {α : Type} (enc : α → List Value) (size : Nat) (w : World) (xv : Value) (I : List α) : Prop := (xv = .slice none 0 0 ∧ I = []) ∨ ∃ ad c, xv = .slice (some ad) I.length c ∧ Sl enc size w (.slice (some ad) I.length c) I
theorem SrcG.ext {α : Type} {enc : α → List Value} {size : Nat} {w w' : World} {xv : Value} {I : List α} (h : SrcG enc size w xv I) (e : Ext w w') : SrcG enc size w' xv I := by
  rcases h with h | ⟨ad, c, h1, h2⟩
  · exact .inl h
  · exact .inr ⟨ad, c, h1, h2.ext e⟩
theorem wpList_append_srcG {α : Type} {enc : α → List Value} {P : Program} {w : World} {ops : Array Oper} {rest : List Oper} {o : Oper} {a : Act} {Q : Exit → Act → World → Prop} (hgd : o.guard = none) (s x : Operand) (t : TypeId)
    (ho : o.op = .call { callee := .builtin .append, args := #[s, x], argTypes := #[t, t] })
    (base : Nat) (e : TypeId) (i : TypeInfo) (z : Value) (size bytes : Nat) (ht : P.underlying t = some (.slice e)) (hi : P.info? e = some i) (hz : i.zero = some z)
    (hsize : i.size = size) (hby : i.bytes = bytes) (hzs : z.cells.size = size) (hsz : 0 < size) (henc : ∀ x, (enc x).length = size) (hone : ∀ L : List α, ∀ u ∈ L.flatMap enc, u.oneCell' = true)
    (v : Value) (n : Nat) (xs : List Value) (hs : a.eval s = v) (hown : w.ownsRow base e size v n xs)
    (xv : Value) (I : List α) (hx : a.eval x = xv) (hsrc : SrcG enc size w xv I)
    (h63 : n + I.length ≤ maxLen) (hbytes : (n + I.length) * bytes ≤ 140737488355328) (hbase : base ≤ w.heap.size)
    (h : ∀ v' w', w'.ownsRow base e size v' (n + I.length) (xs ++ I.flatMap enc) → w.grownBy w' v.ownBlock → wpList P ops Q rest (a.put o.dst v') w') : wpList P ops Q (o :: rest) a w := by
  rcases hsrc with ⟨rfl, rfl⟩ | ⟨ad, c, rfl, hI⟩
  · refine wpList_plain hgd fun K hK => ?_
    have hr := run_append_owned_none (P := P) (w := w) base t o.type e i size ht hi v n xs hown
    unfold Oper.wp execOp
    simp only [ho, resolve, invoke, builtin, Sem.run_bind, Sem.run_pure, Result.andThen_ok, List.map_toArray, List.map_cons, List.map_nil, hs, hx, hr]
    exact hK _ _ (h v w (by simpa using hown) ⟨rfl, rfl, rfl, Nat.le_refl _, fun _ _ _ => rfl⟩)
  · exact wpList_append_own w hgd s x t ho base e i z size bytes ht hi hz hsize hby hzs hsz v n xs hs hown ad I.length c (I.flatMap enc) hx (length_flatMap_enc henc I) (hI.news henc hsz)
      (hone I) h63 hbytes hbase (fun v' w' h1 h2 _ => h v' w' h1 h2)
theorem Sl.of_ownN {α : Type} {enc : α → List Value} {size : Nat} (hs : ∀ x, (enc x).length = size) (h0 : 0 < size) {w : World} {base : Nat} {e : TypeId} {v : Value} {n : Nat} {xs : List α}
    (h : w.ownsRow base e size v n (xs.flatMap enc)) (hl : xs.length ≤ 9223372036854775807) : Sl enc size w v xs := by
  have hn : xs.length = n := by
    have := h.1
    rw [length_flatMap_enc hs] at this
    exact Nat.eq_of_mul_eq_mul_right h0 this
  subst hn
  exact Sl.of_own (enc := enc) (size := size) hs h hl
theorem os_at {w : World} {a : Option Addr} {n cap : Nat} {xs : List (Int × Int)} (h : Sl encO 2 w (.slice a n cap) xs) (i : Nat) (hi : i < xs.length) :
    ∃ b off, a = some ⟨b, off, none⟩ ∧ b < w.heap.size ∧ w.cell? ⟨b, off + i * 2, none⟩ = some (.int .i64 xs[i].1) ∧ w.cell? ⟨b, off + i * 2 + 1, none⟩ = some (.int .u64 xs[i].2) := by
  obtain ⟨_, a', cap', hv, _, hc⟩ := h
  cases hv
  obtain ⟨b, off, ha, hb, hc⟩ := hc i xs[i] (List.getElem?_eq_getElem hi)
  exact ⟨b, off, ha, hb, by simpa using hc 0 _ rfl, by simpa using hc 1 _ rfl⟩
theorem Sl.capb {α : Type} {enc : α → List Value} {size : Nat} {w : World} {a : Option Addr} {n cap : Nat} {xs : List α} (h : Sl enc size w (.slice a n cap) xs) : (n : Int) ≤ cap ∧ (cap : Int) ≤ 9223372036854775807 := by
  obtain ⟨h1, a', c', e, hc, _⟩ := h
  cases e
  omega
theorem own_base_x {X : World} {base base' : Nat} (hb : base' ≤ base) {e : TypeId} {s n : Nat} {v : Value} {xs : List Value} (h : X.ownsRow base e s v n xs) : X.ownsRow base' e s v n xs := own_base_b hb h
/-- each with how far it is -/
def wF (f : Int → Int) (T : List Int) : List (Int × Int) := T.map fun x => (x, f x)
theorem wF_len (f : Int → Int) (T : List Int) : (wF f T).length = T.length := by simp [wF]
theorem wF_get (f : Int → Int) (T : List Int) (i : Nat) (hi : i < (wF f T).length) : (wF f T)[i] = (T[i]'(by rw [← wF_len f T]; exact hi), f (T[i]'(by rw [← wF_len f T]; exact hi))) := by simp [wF]
theorem wF_ins (f : Int → Int) (T : List Int) (x : Int) (q : Nat) : wF f (T.take q ++ [x] ++ T.drop q) = (wF f T).take q ++ [(x, f x)] ++ (wF f T).drop q := by simp [wF, List.map_take, List.map_drop]
theorem farI_bd (key : Int) (p : Nat) (hp : 0 < p) (x : Int) : 0 ≤ farI key p x ∧ farI key p x ≤ 18446744073709551615 := by
  obtain ⟨⟨j, _, h⟩, _⟩ := farUp_min key x p hp
  unfold farI; rw [h]; exact dK_bd _ _
set_option maxRecDepth 100000 in
set_option maxHeartbeats 8000000 in
theorem rrow_any (ids : List Int) (v : Value) (p : Nat) (key : Int) (w : World) (hs : Ints w v ids) (hi64 : ∀ x ∈ ids, I64 x) (hl : ids.length ≤ 1000) (hp : 1 ≤ p ∧ p ≤ 1000) (hk : 0 ≤ key ∧ key ≤ 18446744073709551615) :
    Calls Try.prog 41 #[v, .int .i64 p, .int .u64 key] w fun e w' => ∃ v', e = .returned v' ∧ Ints w' v' (rowOf key (pointsOf p ids)) ∧ Ext w w' := by
  obtain ⟨_, a, cap, rfl⟩ := hs.shape
  obtain ⟨io, ho, hoz0, hoz1, hoz2⟩ := info_parts' Try.infoO
  obtain ⟨i0, hi, hz0, hz1, hz2⟩ := info_parts' Try.infoI
  have HS := hide hs
  have HCP := hide hs.capb
  have HI := hide hi64
  have hlz : (ids.length : Int) ≤ 1000 := by omega
  have hfar : ∀ (x : Int) (u : World), Calls Try.prog 57 #[.int .i64 x, .int .i64 p, .int .u64 key] u fun e w' => e = .returned (.int .u64 (farI key p x)) ∧ u = w' := fun x u => far_any x key p u hp
  have hfb : ∀ x : Int, 0 ≤ farI key p x ∧ farI key p x ≤ 18446744073709551615 := fun x => farI_bd key p hp.1 x
  have huq : ∀ T : List Int, T.Pairwise (RK (farI key p)) → (∀ x, x ∈ T ↔ x ∈ ids) → T = rowOf key (pointsOf p ids) := fun T h1 h2 => rowOf_unique key hk p hp.1 ids T h1 h2
  obtain ⟨f, hf⟩ : ∃ f, farI key p = f := ⟨_, rfl⟩
  rw [hf] at huq
  simp only [hf] at hfar hfb
  have HFAR := hide hfar
  have HFB := hide hfb
  have HUQ := hide huq
  clear hs hi64 hfar hfb huq hf hk
  go_enter Try.func41, Try.ntmps41
  go_wp2_with fail
  go_loopw [7, 8] (fun v i wr => ∃ (k : Nat) (T : List Int), k ≤ ids.length ∧ i = .int .i64 k ∧ T.length ≤ k ∧ T.Pairwise (RK f) ∧ (∀ x, x ∈ T ↔ x ∈ ids.take k) ∧ wr.ownsRow w.heap.size 95 2 v T.length ((wF f T).flatMap encO) ∧ Ext w wr) (fun _ i _ => ids.length - (intOf i).toNat)
  case atStart => exact ⟨0, [], by omega, rfl, by simp, by simp, by simp, by simpa [wF] using World.ownsRow_nil _ _ _ _, Below.refl _ _⟩
  case round =>
    obtain ⟨k, T, hk, rfl, hTk, hT, hTm, hown, hext⟩ := hrel
    have hshp : (u7 = .slice none 0 0 ∧ T = []) ∨ ∃ g c, u7 = .slice (some ⟨g, 0, none⟩) T.length c ∧ T.length ≤ c ∧ (c : Int) ≤ 9223372036854775807 := by
      rcases hown.2 with ⟨rfl, h0⟩ | ⟨g, c, cur, rfl, _, _, hc, hcm, _⟩
      · exact .inl ⟨rfl, List.eq_nil_of_length_eq_zero h0⟩
      · exact .inr ⟨g, c, rfl, hc, by unfold maxLen at hcm; omega⟩
    by_cases hlt : k < ids.length
    · obtain ⟨b, off, rfl, hbb, hc⟩ := ints_at (HS.out.ext hext) k hlt
      have hpre := (HS.out.ext hext).take k (by omega)
      have htl : (ids.take k).length = k := by rw [List.length_take]; omega
      have hmx := HI.out _ (List.getElem_mem hlt)
      have hts := take_snoc ids k hlt
      have hsz := hext.size
      obtain ⟨x, hx⟩ : ∃ x, ids[k] = x := ⟨_, rfl⟩
      rw [hx] at hc hts
      have HTS := hide hts
      have HT := hide hT
      have HTM := hide hTm
      have HO := hide hown
      have HE := hide hext
      have hhas : ∀ u : World, Ext wr u → Calls Try.prog 18 #[.slice (some ⟨b, off, none⟩) k cap, .int .i64 x] u fun e w' => e = .returned (.bool ((ids.take k).contains x)) ∧ w' = u := fun u hu => by
        have h1 := hpre.ext hu
        have := has_any (ids.take k) x (.slice (some ⟨b, off, none⟩) k cap) u h1
        exact this.mono (fun _ _ h => ⟨h.1, h.2.symm⟩)
      have hkz : (k : Int) ≤ ids.length := by omega
      have hcp1 := HCP.out.1
      have hcp2 := HCP.out.2
      have hk0 : (0 : Int) ≤ k := by omega
      have hkcap : (k : Int) ≤ cap := by omega
      obtain ⟨t, ht⟩ : ∃ t, (ids.take k).contains x = t := ⟨_, rfl⟩
      rw [ht] at hhas
      have HHAS := hide hhas
      have HTT := hide ht
      clear hpre hx hts hT hTm hown hhas ht hmx hext
      go_wp2_with fail
      go_quiet ((go_at_call 18; refine Calls.quiet_of_same (HHAS.out _ (Below.drewN' (Below.refl _ _) _))))
      rename_i nq
      have hwe : Ext w (wr.drewN nq) := Below.drewN' HE.out _
      have hwo : (wr.drewN nq).ownsRow w.heap.size 95 2 u7 T.length ((wF f T).flatMap encO) := HO.out
      have hwc : (wr.drewN nq).cell? ⟨b, off + k, none⟩ = some (.int .i64 x) := hc
      have hwb : b < (wr.drewN nq).heap.size := hbb
      obtain ⟨wq, hwq⟩ : ∃ wq, wr.drewN nq = wq := ⟨_, rfl⟩
      rw [hwq] at hwe hwo hwc hwb ⊢
      have HO := hide hwo
      have HE := hide hwe
      clear hc hwq hwo hwe
      have hsz := HE.out.size
      cases t with
      | true =>
        have hin : x ∈ ids.take k := by have := HTT.out; simpa using this
        have hmem : ∀ y, y ∈ T ↔ y ∈ ids.take (k + 1) := fun y => by
          rw [HTS.out, List.mem_append, HTM.out y]
          constructor
          · exact .inl
          · rintro (h | h)
            · exact h
            · rw [List.mem_singleton.1 h]; exact hin
        have HMM := hide hmem
        clear hin hmem
        go_wp2
        go_roundw
        case rel => exact ⟨k + 1, T, hlt, by go_num, by omega, HT.out, HMM.out, HO.out, HE.out⟩
        case measure => simp [intOf]; omega
      | false =>
        go_wp2_with fail
        have hcz : ∀ X : World, Ext wq X → X.cell? ⟨b, off + k, none⟩ = some (.int .i64 x) := fun X hX => (hX.cell (p := ⟨b, off + k, none⟩) hwb).trans hwc
        have HCZ := hide hcz
        clear hcz
        have hfx := HFAR.out x
        have HFX := hide hfx
        clear hfx
        go_region_held3 (fun w' => w'.cell? ⟨b, off + k, none⟩ = some (.int .i64 x))
          (first
            | exact HCZ.out _ (Below.refl _ _)
            | exact HCZ.out _ (Below.drewN' (Below.refl _ _) _)
            | exact HCZ.out _ ((Below.drewN' (Below.refl _ _) _).alloc (Nat.le_refl _) _)
            | exact HCZ.out _ (((Below.drewN' (Below.refl _ _) _).alloc (Nat.le_refl _) _).setCell (Nat.le_refl _) _)
            | exact HCZ.out _ ((((Below.drewN' (Below.refl _ _) _).alloc (Nat.le_refl _) _).setCell (Nat.le_refl _) _).setCell (Nat.le_refl _) _))
          (first | (go_at_call 57; refine (HFX.out _).mono ?_; rintro e w8 ⟨rfl, rfl⟩))
        all_goals
          have cX : (wq.alloc (.cells #[.int .i64 x, .int .u64 (f x)] 95)).drew.cell? ⟨wq.heap.size, 0, none⟩ = some (.int .i64 x) := by go_simp
          have cF : (wq.alloc (.cells #[.int .i64 x, .int .u64 (f x)] 95)).drew.cell? ⟨wq.heap.size, 1, none⟩ = some (.int .u64 (f x)) := by go_simp
          have e1 : Ext wq (wq.alloc (.cells #[.int .i64 x, .int .u64 (f x)] 95)).drew := ((Below.refl _ wq).alloc (Nat.le_refl _) _).drew
          have hs1 : wq.heap.size < (wq.alloc (.cells #[.int .i64 x, .int .u64 (f x)] 95)).drew.heap.size := by simp
          have ho1 := own_grow_t HO.out e1
          obtain ⟨w1, hw1⟩ : ∃ w1, (wq.alloc (.cells #[.int .i64 x, .int .u64 (f x)] 95)).drew = w1 := ⟨_, rfl⟩
          obtain ⟨B, hB⟩ : ∃ B, wq.heap.size = B := ⟨_, rfl⟩
          rw [hw1] at cX cF e1 hs1 ho1 ⊢
          rw [hB] at cX cF hs1 ⊢
          have hfb := HFB.out x
          obtain ⟨fx, hfx⟩ : ∃ z, f x = z := ⟨_, rfl⟩
          rw [hfx] at cF hfb ⊢
          have HFXE := hide hfx
          have HE1 := hide (HE.out.trans e1)
          have HO1 := hide ho1
          have HCELL := hide (show ∀ X, Ext w1 X → X.cell? ⟨B, 0, none⟩ = some (.int .i64 x) ∧ X.cell? ⟨B, 1, none⟩ = some (.int .u64 fx) from fun X hX => ⟨(hX.cell (p := ⟨B, 0, none⟩) hs1).trans cX, (hX.cell (p := ⟨B, 1, none⟩) hs1).trans cF⟩)
          clear hw1 hB cX cF e1 ho1 hwc HCZ HFX hfx
          rcases hshp with ⟨rfl, rfl⟩ | ⟨g, c, rfl, hgc, hcm⟩
          · have hxn := HTT.out
            have hM' : ∀ y, y ∈ [x] ↔ y ∈ ids.take (k + 1) := fun y => by
              have h := HTM.out y
              rw [HTS.out, List.mem_append, ← h]
              simp
            have HM2 := hide hM'
            have hwsz : w.heap.size ≤ w1.heap.size := HE1.out.size
            have hW' : (wF f [x]).flatMap encO = [.int .i64 x, .int .u64 fx] := by simp [wF, encO, HFXE.out]
            have HW2 := hide hW'
            clear hxn hM' hW'
            go_wp2_with fail
            go_loopw [10] (fun i wr => i = .int .i64 0 ∧ Ext w1 wr) (fun i _ => 0)
            case atStart => exact ⟨rfl, Below.refl _ _⟩
            case round =>
              obtain ⟨rfl, hxq⟩ := hrel
              have HXQ := hide hxq
              obtain ⟨cX, cF⟩ := HCELL.out _ hxq
              have hsz1 := hxq.size
              clear hxq
              go_wp2_with fail
              go_quiet (fail)
              all_goals
                go_wp2_with (first
                  | (at_builtin; refine wpList_append_own _ (by rfl) _ _ 92 (by rfl) w1.heap.size 95 io (.agg #[.int .i64 0, .int .u64 0]) 2 16 Try.underlying92 ho hoz0 hoz1 hoz2 rfl (by decide) (.slice none 0 0) 0 [] (by rfl) (World.ownsRow_nil _ _ _ _) ⟨wr.heap.size, 0, none⟩ 1 1 [.int .i64 x, .int .u64 fx] (by rfl) (by rfl) (World.news_of_block (cs := #[.int .i64 x, .int .u64 fx]) (t := 95) (fr := (0, 0)) (heap_alloc_new (wr.drewN _) _)) (by simp [Value.oneCell']) (by unfold maxLen; omega) (by omega) (by simp; omega) ?_; intro v3 w3 hown3 hgrow3 _; have e3 : Ext w1 w3 := Below.grown (Below.alloc (Below.drewN' HXQ.out _) HXQ.out.size _) hgrow3 (by simp; omega) (fun r hr => by simp [Value.ownBlock] at hr); have hz3 := e3.size)
                  | (at_builtin; refine wpList_append_srcG (by rfl) _ _ 92 (by rfl) w1.heap.size 95 io (.agg #[.int .i64 0, .int .u64 0]) 2 16 Try.underlying92 ho hoz0 hoz1 hoz2 rfl (by decide) encO_len encO_one v3 _ _ (by rfl) hown3 (.slice none 0 0) [] (by rfl) (.inl ⟨rfl, rfl⟩) (by unfold maxLen; simp) (by simp) hz3 ?_; intro v4 w4 hown4 hgrow4; have e4 : Ext w1 w4 := Below.grown e3 hgrow4 hz3 (fun r hr => (hown3.lt r hr).1)))
                have hown5 : w4.ownsRow w.heap.size 95 2 v4 [x].length ((wF f [x]).flatMap encO) := by
                  refine own_base_x hwsz ?_
                  rw [HW2.out]
                  simpa using hown4
                go_roundw
                case rel => exact ⟨k + 1, [x], hlt, by go_num, by simp, by simp, HM2.out, hown5, HE1.out.trans e4⟩
                case measure => simp [intOf]; omega
          · go_wp2_with fail
            go_loopw [10] (fun i wr => ∃ q : Nat, q ≤ T.length ∧ i = .int .i64 q ∧ (∀ y ∈ T.take q, RK f y x) ∧ Ext w1 wr) (fun i _ => (T.length - intOf i).toNat)
            case atStart => exact ⟨0, by omega, rfl, by simp, Below.refl _ _⟩
            case round =>
              obtain ⟨q, hq, rfl, hRq, hxq⟩ := hrel
              obtain ⟨cX, cF⟩ := HCELL.out _ hxq
              have hsl : Sl encO 2 wr (.slice (some ⟨g, 0, none⟩) T.length c) (wF f T) := by
                have := (Sl.of_ownN encO_len (by decide) HO1.out (by rw [wF_len]; omega)).ext hxq
                exact this
              have hTl : T.length ≤ 1000 := by omega
              by_cases hgo : ∃ h : q < T.length, RK f T[q] x
              · obtain ⟨hlq, hr⟩ := hgo
                obtain ⟨b1, o1, eb1, hb1, hca, hcb⟩ := os_at hsl q (by rw [wF_len]; exact hlq)
                cases eb1
                rw [wF_get, Nat.zero_add] at hca hcb
                have hts' := take_snoc T q hlq
                obtain ⟨y, hy⟩ : ∃ y, T[q] = y := ⟨_, rfl⟩
                rw [hy] at hca hcb hr hts'
                have hRq' : ∀ z ∈ T.take (q + 1), RK f z x := fun z hz => by
                  rw [hts'] at hz
                  rcases List.mem_append.1 hz with h | h
                  · exact hRq z h
                  · rw [List.mem_singleton.1 h]; exact hr
                have HRQ := hide hRq'
                unfold RK at hr
                rw [HFXE.out] at hr
                have hfy := HFB.out y
                obtain ⟨fy, hfy'⟩ : ∃ z, f y = z := ⟨_, rfl⟩
                simp only [hfy'] at hca hcb hr hfy
                have hqz : (q : Int) < T.length := by omega
                have hq0 : (0 : Int) ≤ q := by omega
                clear hRq hRq' hts' hsl hy hfy'
                rcases hr with hr | ⟨hr1, hr2⟩
                · go_wp2_with fail
                  go_quiet (fail)
                  all_goals
                    go_wp2
                    go_roundw
                    case rel => exact ⟨q + 1, by omega, by go_num, HRQ.out, Below.drewN' hxq _⟩
                    case measure => simp [intOf]; omega
                · have hg1 : decide (fy < fx) = false := by simp; omega
                  have hg2 : (fy == fx) = true := by simp [hr1]
                  clear hr1
                  go_wp2_with fail
                  go_quiet (fail)
                  all_goals
                    go_wp2
                    go_roundw
                    case rel => exact ⟨q + 1, by omega, by go_num, HRQ.out, Below.drewN' hxq _⟩
                    case measure => simp [intOf]; omega
              · have hex : ∀ h : q < T.length, ¬ RK f T[q] x := fun h hr => hgo ⟨h, hr⟩
                have hqz : (q : Int) ≤ T.length := by omega
                have hq0 : (0 : Int) ≤ q := by omega
                have hTc : (T.length : Int) ≤ c := by omega
                have hqc : (q : Int) ≤ c := by omega
                have HEX := hide hex
                have HRQ := hide hRq
                have HSL := hide hsl
                have HXQ := hide hxq
                have hcase : (q = T.length) ∨ ∃ (h : q < T.length), (¬ f T[q] < f x ∧ f T[q] ≠ f x) ∨ (¬ f T[q] < f x ∧ f T[q] = f x ∧ ¬ T[q] < x) := by
                  by_cases h : q < T.length
                  · refine .inr ⟨h, ?_⟩
                    have hn := hex h
                    unfold RK at hn
                    by_cases h2 : f T[q] = f x
                    · exact .inr ⟨by omega, h2, by omega⟩
                    · exact .inl ⟨by omega, h2⟩
                  · exact .inl (by omega)
                clear hgo hex hRq hxq
                have hxn : x ∉ T := fun h => by
                  have h1 := (HTM.out x).1 h
                  have h2 := HTT.out
                  simp only [List.contains_eq_mem, decide_eq_false_iff_not] at h2
                  exact h2 h1
                have hT' := ins_RK f T x q HT.out hxn HRQ.out HEX.out
                have hM' : ∀ y, y ∈ T.take q ++ [x] ++ T.drop q ↔ y ∈ ids.take (k + 1) := fun y => by
                  rw [ins_mem, HTM.out y, HTS.out, List.mem_append, List.mem_singleton]
                have hL' : (T.take q ++ [x] ++ T.drop q).length = T.length + 1 := by simp; omega
                have hW' := wF_ins f T x q
                have hW1 : ((wF f T).take q).length = q := by rw [List.length_take, wF_len]; omega
                have hW3 : ((wF f T).drop q).length = T.length - q := by rw [List.length_drop, wF_len]
                have hsrc1 : SrcG encO 2 wr (.slice (some ⟨g, 0, none⟩) q c) ((wF f T).take q) := by
                  refine .inr ⟨⟨g, 0, none⟩, c, by rw [hW1], ?_⟩
                  rw [hW1]
                  exact Sl.take HSL.out q hq
                have hsrc3 : SrcG encO 2 wr (.slice (if c = q then some ⟨g, 0, none⟩ else some ⟨g, q * 2, none⟩) (T.length - q) (c - q)) ((wF f T).drop q) := by
                  by_cases hck : c = q
                  · have hn : (wF f T).drop q = [] := List.eq_nil_of_length_eq_zero (by rw [hW3]; omega)
                    rw [if_pos hck, hn]
                    have e0 : T.length - q = 0 := by omega
                    rw [e0]
                    exact .inr ⟨_, _, rfl, by simp, some ⟨g, 0, none⟩, c - q, rfl, by simp; omega, fun i x hi => by simp at hi⟩
                  · rw [if_neg hck]
                    have hd := Sl.drop HSL.out q hq
                    rw [Nat.zero_add] at hd
                    refine .inr ⟨⟨g, q * 2, none⟩, c - q, by rw [hW3], ?_⟩
                    rw [hW3]; exact hd
                rw [HFXE.out] at hW'
                have hwsz : w.heap.size ≤ wr.heap.size := (HE1.out.trans HXQ.out).size
                have HT2 := hide hT'
                have HM2 := hide hM'
                have HL2 := hide hL'
                have HW2 := hide hW'
                have HS1 := hide hsrc1
                have HS3 := hide hsrc3
                have hW1i : ((wF f T).take q).length ≤ 1000 := by omega
                have hW3i : ((wF f T).drop q).length ≤ 1000 := by omega
                have HW1 := hide hW1
                have HW3 := hide hW3
                clear hxn hT' hM' hL' hW' hsrc1 hsrc3 hW1 hW3
                rcases hcase with hqe | ⟨hlq, hcase⟩
                · have hg0 : decide (q < T.length) = false := by simp; omega
                  have hg0' : decide ((q : Int) < T.length) = false := by simp; omega
                  have HQE := hide hqe
                  clear hqe hsl
                  go_wp2_with fail
                  go_quiet (fail)
                  all_goals
                    go_wp2_with (first
                    | (at_builtin; refine wpList_append_srcG (by rfl) _ _ 92 (by rfl) wr.heap.size 95 io (.agg #[.int .i64 0, .int .u64 0]) 2 16 Try.underlying92 ho hoz0 hoz1 hoz2 rfl (by decide) encO_len encO_one (.slice none 0 0) 0 [] (by rfl) (World.ownsRow_nil _ _ _ _) _ ((wF f T).take q) (by rfl) (SrcG.ext HS1.out (Below.drewN' (Below.refl _ _) _)) (by unfold maxLen; omega) (by omega) (Nat.le_refl _) ?_; intro v2 w2 hown2 hgrow2; have e2 : Ext wr w2 := Below.grown (Below.drewN' (Below.refl _ _) _) hgrow2 (Nat.le_refl _) (fun r hr => by simp [Value.ownBlock] at hr); obtain ⟨cX2, cF2⟩ := HCELL.out _ (HXQ.out.trans e2); have hz2 := e2.size)
                    | (at_builtin; refine wpList_append_own _ (by rfl) _ _ 92 (by rfl) wr.heap.size 95 io (.agg #[.int .i64 0, .int .u64 0]) 2 16 Try.underlying92 ho hoz0 hoz1 hoz2 rfl (by decide) v2 _ _ (by rfl) (hown2.alloc _) ⟨w2.heap.size, 0, none⟩ 1 1 [.int .i64 x, .int .u64 fx] (by rfl) (by rfl) (World.news_of_block (cs := #[.int .i64 x, .int .u64 fx]) (t := 95) (fr := (0, 0)) (heap_alloc_new w2 _)) (by simp [Value.oneCell']) (by unfold maxLen; omega) (by omega) (by simp; omega) ?_; intro v3 w3 hown3 hgrow3 _; have e3 : Ext wr w3 := e2.app hown2 hgrow3; have hz3 := e3.size)
                    | (at_builtin; refine wpList_append_srcG (by rfl) _ _ 92 (by rfl) wr.heap.size 95 io (.agg #[.int .i64 0, .int .u64 0]) 2 16 Try.underlying92 ho hoz0 hoz1 hoz2 rfl (by decide) encO_len encO_one v3 _ _ (by rfl) hown3 _ ((wF f T).drop q) (by rfl) (SrcG.ext HS3.out e3) (by unfold maxLen; omega) (by omega) hz3 ?_; intro v4 w4 hown4 hgrow4; have e4 : Ext wr w4 := Below.grown e3 hgrow4 hz3 (fun r hr => (hown3.lt r hr).1)))
                    have hown5 : w4.ownsRow w.heap.size 95 2 v4 (T.take q ++ [x] ++ T.drop q).length ((wF f (T.take q ++ [x] ++ T.drop q)).flatMap encO) := by
                      refine own_base_x hwsz ?_
                      rw [HW2.out, HL2.out, List.flatMap_append, List.flatMap_append]
                      have e : 0 + ((wF f T).take q).length + 1 + ((wF f T).drop q).length = T.length + 1 := by rw [HW1.out, HW3.out]; omega
                      rw [e, List.nil_append] at hown4
                      exact hown4
                    go_roundw
                    case rel => exact ⟨k + 1, T.take q ++ [x] ++ T.drop q, hlt, by go_num, by rw [HL2.out]; omega, HT2.out, HM2.out, hown5, HE1.out.trans (HXQ.out.trans e4)⟩
                    case measure => simp [intOf]; omega
                · obtain ⟨b1, o1, eb1, hb1, hca, hcb⟩ := os_at hsl q (by rw [wF_len]; exact hlq)
                  cases eb1
                  rw [wF_get, Nat.zero_add] at hca hcb
                  obtain ⟨y, hy⟩ : ∃ y, T[q] = y := ⟨_, rfl⟩
                  simp only [hy, HFXE.out] at hca hcb hcase
                  have hfy := HFB.out y
                  obtain ⟨fy, hfy'⟩ : ∃ z, f y = z := ⟨_, rfl⟩
                  simp only [hfy'] at hca hcb hcase hfy
                  have hqlz : (q : Int) < T.length := by omega
                  have hs3 := HS3.out
                  rw [if_neg (show ¬ c = q by omega)] at hs3
                  have HS3 := hide hs3
                  clear hsl hy hfy' hs3
                  rcases hcase with ⟨hg1, hg2⟩ | ⟨hg1, hg2, hg3⟩
                  · have hg2' : (fy == fx) = false := by simpa using hg2
                    have hg1' : decide (fy < fx) = false := by simpa using hg1
                    clear hg2 hg1
                    go_wp2_with fail
                    go_quiet (fail)
                    all_goals
                      go_wp2_with (first
                      | (at_builtin; refine wpList_append_srcG (by rfl) _ _ 92 (by rfl) wr.heap.size 95 io (.agg #[.int .i64 0, .int .u64 0]) 2 16 Try.underlying92 ho hoz0 hoz1 hoz2 rfl (by decide) encO_len encO_one (.slice none 0 0) 0 [] (by rfl) (World.ownsRow_nil _ _ _ _) _ ((wF f T).take q) (by rfl) (SrcG.ext HS1.out (Below.drewN' (Below.refl _ _) _)) (by unfold maxLen; omega) (by omega) (Nat.le_refl _) ?_; intro v2 w2 hown2 hgrow2; have e2 : Ext wr w2 := Below.grown (Below.drewN' (Below.refl _ _) _) hgrow2 (Nat.le_refl _) (fun r hr => by simp [Value.ownBlock] at hr); obtain ⟨cX2, cF2⟩ := HCELL.out _ (HXQ.out.trans e2); have hz2 := e2.size)
                      | (at_builtin; refine wpList_append_own _ (by rfl) _ _ 92 (by rfl) wr.heap.size 95 io (.agg #[.int .i64 0, .int .u64 0]) 2 16 Try.underlying92 ho hoz0 hoz1 hoz2 rfl (by decide) v2 _ _ (by rfl) (hown2.alloc _) ⟨w2.heap.size, 0, none⟩ 1 1 [.int .i64 x, .int .u64 fx] (by rfl) (by rfl) (World.news_of_block (cs := #[.int .i64 x, .int .u64 fx]) (t := 95) (fr := (0, 0)) (heap_alloc_new w2 _)) (by simp [Value.oneCell']) (by unfold maxLen; omega) (by omega) (by simp; omega) ?_; intro v3 w3 hown3 hgrow3 _; have e3 : Ext wr w3 := e2.app hown2 hgrow3; have hz3 := e3.size)
                      | (at_builtin; refine wpList_append_srcG (by rfl) _ _ 92 (by rfl) wr.heap.size 95 io (.agg #[.int .i64 0, .int .u64 0]) 2 16 Try.underlying92 ho hoz0 hoz1 hoz2 rfl (by decide) encO_len encO_one v3 _ _ (by rfl) hown3 _ ((wF f T).drop q) (by rfl) (SrcG.ext HS3.out e3) (by unfold maxLen; omega) (by omega) hz3 ?_; intro v4 w4 hown4 hgrow4; have e4 : Ext wr w4 := Below.grown e3 hgrow4 hz3 (fun r hr => (hown3.lt r hr).1)))
                      have hown5 : w4.ownsRow w.heap.size 95 2 v4 (T.take q ++ [x] ++ T.drop q).length ((wF f (T.take q ++ [x] ++ T.drop q)).flatMap encO) := by
                        refine own_base_x hwsz ?_
                        rw [HW2.out, HL2.out, List.flatMap_append, List.flatMap_append]
                        have e : 0 + ((wF f T).take q).length + 1 + ((wF f T).drop q).length = T.length + 1 := by rw [HW1.out, HW3.out]; omega
                        rw [e, List.nil_append] at hown4
                        exact hown4
                      go_roundw
                      case rel => exact ⟨k + 1, T.take q ++ [x] ++ T.drop q, hlt, by go_num, by rw [HL2.out]; omega, HT2.out, HM2.out, hown5, HE1.out.trans (HXQ.out.trans e4)⟩
                      case measure => simp [intOf]; omega
                  · have hg2' : (fy == fx) = true := by simpa using hg2
                    have hg1' : decide (fy < fx) = false := by simpa using hg1
                    have hg3' : decide (y < x) = false := by simpa using hg3
                    clear hg2 hg1 hg3
                    go_wp2_with fail
                    go_quiet (fail)
                    all_goals
                      go_wp2_with (first
                      | (at_builtin; refine wpList_append_srcG (by rfl) _ _ 92 (by rfl) wr.heap.size 95 io (.agg #[.int .i64 0, .int .u64 0]) 2 16 Try.underlying92 ho hoz0 hoz1 hoz2 rfl (by decide) encO_len encO_one (.slice none 0 0) 0 [] (by rfl) (World.ownsRow_nil _ _ _ _) _ ((wF f T).take q) (by rfl) (SrcG.ext HS1.out (Below.drewN' (Below.refl _ _) _)) (by unfold maxLen; omega) (by omega) (Nat.le_refl _) ?_; intro v2 w2 hown2 hgrow2; have e2 : Ext wr w2 := Below.grown (Below.drewN' (Below.refl _ _) _) hgrow2 (Nat.le_refl _) (fun r hr => by simp [Value.ownBlock] at hr); obtain ⟨cX2, cF2⟩ := HCELL.out _ (HXQ.out.trans e2); have hz2 := e2.size)
                      | (at_builtin; refine wpList_append_own _ (by rfl) _ _ 92 (by rfl) wr.heap.size 95 io (.agg #[.int .i64 0, .int .u64 0]) 2 16 Try.underlying92 ho hoz0 hoz1 hoz2 rfl (by decide) v2 _ _ (by rfl) (hown2.alloc _) ⟨w2.heap.size, 0, none⟩ 1 1 [.int .i64 x, .int .u64 fx] (by rfl) (by rfl) (World.news_of_block (cs := #[.int .i64 x, .int .u64 fx]) (t := 95) (fr := (0, 0)) (heap_alloc_new w2 _)) (by simp [Value.oneCell']) (by unfold maxLen; omega) (by omega) (by simp; omega) ?_; intro v3 w3 hown3 hgrow3 _; have e3 : Ext wr w3 := e2.app hown2 hgrow3; have hz3 := e3.size)
                      | (at_builtin; refine wpList_append_srcG (by rfl) _ _ 92 (by rfl) wr.heap.size 95 io (.agg #[.int .i64 0, .int .u64 0]) 2 16 Try.underlying92 ho hoz0 hoz1 hoz2 rfl (by decide) encO_len encO_one v3 _ _ (by rfl) hown3 _ ((wF f T).drop q) (by rfl) (SrcG.ext HS3.out e3) (by unfold maxLen; omega) (by omega) hz3 ?_; intro v4 w4 hown4 hgrow4; have e4 : Ext wr w4 := Below.grown e3 hgrow4 hz3 (fun r hr => (hown3.lt r hr).1)))
                      have hown5 : w4.ownsRow w.heap.size 95 2 v4 (T.take q ++ [x] ++ T.drop q).length ((wF f (T.take q ++ [x] ++ T.drop q)).flatMap encO) := by
                        refine own_base_x hwsz ?_
                        rw [HW2.out, HL2.out, List.flatMap_append, List.flatMap_append]
                        have e : 0 + ((wF f T).take q).length + 1 + ((wF f T).drop q).length = T.length + 1 := by rw [HW1.out, HW3.out]; omega
                        rw [e, List.nil_append] at hown4
                        exact hown4
                      go_roundw
                      case rel => exact ⟨k + 1, T.take q ++ [x] ++ T.drop q, hlt, by go_num, by rw [HL2.out]; omega, HT2.out, HM2.out, hown5, HE1.out.trans (HXQ.out.trans e4)⟩
                      case measure => simp [intOf]; omega
    · obtain rfl : k = ids.length := by omega
      have hsl := Sl.of_ownN encO_len (by decide) hown (by rw [wF_len]; omega)
      have hTx : T = rowOf key (pointsOf p ids) := HUQ.out T hT (fun x => by rw [hTm x, List.take_length])
      have HTX := hide hTx
      have HSL := hide hsl
      have hTl : T.length ≤ 1000 := by omega
      have HE := hide hext
      obtain ⟨a7, c7, rfl⟩ := own_shape hown
      have hwz := hext.size
      obtain ⟨wz, rfl⟩ : ∃ wz : World, wz = wr := ⟨_, rfl⟩
      clear hT hTm hown hext hsl hTx
      go_wp2_with fail
      go_loopw [12, 13] (fun v i u => ∃ j : Nat, j ≤ T.length ∧ i = .int .i64 j ∧ u.ownsRow wz.heap.size 3 1 v j ((T.take j).flatMap encI) ∧ Ext wz u) (fun _ i _ => (T.length - intOf i).toNat)
      case atStart => exact ⟨0, by omega, rfl, by simpa using World.ownsRow_nil _ _ _ _, Below.refl _ _⟩
      case round =>
        obtain ⟨j, hj, rfl, hown, hext⟩ := hrel
        by_cases hlt : j < T.length
        · obtain ⟨b1, o1, eb1, hb1, hca, hcb⟩ := os_at (HSL.out.ext hext) j (by rw [wF_len]; exact hlt)
          subst eb1
          rw [wF_get] at hca hcb
          have hts := flat_snoc encI T j hlt
          obtain ⟨y, hy⟩ : ∃ y, T[j] = y := ⟨_, rfl⟩
          simp only [hy] at hca hcb hts
          have HTS := hide hts
          have hsz := hext.size
          clear hts hy
          go_wp2_with (at_builtin; refine wpList_append_own _ (by rfl) _ _ 28 (by rfl) wz.heap.size 3 i0 (.int .i64 0) 1 8 Try.underlying28 hi hz0 hz1 hz2 rfl (by decide) _ j _ (by rfl) (hown.alloc _) ⟨wr.heap.size, 0, none⟩ 1 1 [.int .i64 y] (by rfl) (by rfl) (cells_new wr [.int .i64 y] 3) (by simp [Value.oneCell']) (by unfold maxLen; omega) (by omega) (by simp; omega) ?_; intro v2 w2 hown2 hgrow2 _)
          go_roundw
          case rel => exact ⟨j + 1, hlt, by go_num, by rw [HTS.out]; exact hown2, hext.app hown hgrow2⟩
          case measure => simp [intOf]; omega
        · obtain rfl : j = T.length := by omega
          rw [List.take_length] at hown
          have hfin := own_ints_b hown (by omega)
          rw [HTX.out] at hfin
          have HF := hide hfin
          clear hown hfin
          go_wp2
          go_ret
          exact ⟨_, rfl, HF.out, HE.out.trans hext⟩
end Go.Proofs.Ytoncfogihiapiaa
