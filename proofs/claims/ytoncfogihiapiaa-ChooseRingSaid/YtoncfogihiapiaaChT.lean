/- choose.loadsOf; Pick by bound. -/
import Derived.Test.YtoncfogihiapiaaChQ
namespace Go.Proofs.Ytoncfogihiapiaa
open Go.ChangeShapes Go.WideShapes Go.ChangeAt Go.RowKit Go.Maps Go.Shelf
def cldAt (L : List (Int × Int)) (x : Int) : Int × Int := (x, loadI L x)
def cldOf (S : List Int) (L : List (Int × Int)) : List (Int × Int) := S.map (cldAt L)
theorem cldOf_succ (S : List Int) (L : List (Int × Int)) (k : Nat) (h : k < S.length) : cldOf (S.take (k+1)) L = cldOf (S.take k) L ++ [(S[k], loadI L S[k])] := by
  unfold cldOf; rw [take_snoc S k h, List.map_append]; rfl
theorem cldOf_len (S : List Int) (L : List (Int × Int)) : (cldOf S L).length = S.length := by unfold cldOf; simp
theorem cldOf_load (S : List Int) (L : List (Int × Int)) (x : Int) (h : x ∈ S) : loadI (cldOf S L) x = loadI L x := by
  have : loadF (cldOf S L) x = some (loadI L x) := by
    unfold loadF cldOf
    rw [List.find?_map]
    have hf : S.find? ((fun y : Int × Int => y.1 == x) ∘ cldAt L) = some x := by
      induction S with
      | nil => simp at h
      | cons y S ih =>
        rw [List.find?_cons]
        by_cases e : y = x
        · subst e; simp [cldAt]
        · have : ((fun y : Int × Int => y.1 == x) ∘ cldAt L) y = false := by simp [cldAt, e]
          rw [this]
          rcases List.mem_cons.1 h with h | h
          · exact absurd h.symm e
          · exact ih h
    rw [hf]; rfl
  unfold loadI at *
  rw [this]; rfl
theorem sumL_ldOf (R S : List Int) (L : List (Int × Int)) (h : ∀ x ∈ R, x ∈ S) : sumL R (cldOf S L) = sumL R L := by
  unfold sumL
  rw [List.map_congr_left (fun x hx => cldOf_load S L x (h x hx))]
theorem find_congr' {α : Type} (l : List α) (p q : α → Bool) (h : ∀ x ∈ l, p x = q x) : l.find? p = l.find? q := by
  induction l with
  | nil => rfl
  | cons a l ih =>
    rw [List.find?_cons, List.find?_cons, h a (by simp), ih (fun x hx => h x (by simp [hx]))]
def pickB (row S : List Int) (L : List (Int × Int)) : Option Int := pickOf (cnt row S) L 125
theorem pickB_ldOf (row S : List Int) (L : List (Int × Int)) : pickOf (cnt row S) (cldOf S L) 125 = pickB row S L := by
  have hm : ∀ x ∈ cnt row S, x ∈ S := fun x hx => by unfold cnt at hx; simpa using (List.mem_filter.1 hx).2
  unfold pickB pickOf
  rw [sumL_ldOf _ S L hm]
  exact find_congr' _ _ _ (fun x hx => by rw [cldOf_load S L x (hm x hx)])
theorem loadI_bd' (L : List (Int × Int)) (h : ∀ x ∈ L, 0 ≤ x.2 ∧ x.2 ≤ 2000000) (x : Int) : 0 ≤ loadI L x ∧ loadI L x ≤ 2000000 := loadI_bd L 2000000 (by omega) h x
theorem cldOf_bd (S : List Int) (L : List (Int × Int)) (hS : ∀ x ∈ S, I64 x) (h : ∀ x ∈ L, 0 ≤ x.2 ∧ x.2 ≤ 2000000) : (∀ x ∈ cldOf S L, I64 x.1) ∧ ∀ x ∈ cldOf S L, 0 ≤ x.2 ∧ x.2 ≤ 2000000 := by
  constructor
  · intro x hx
    obtain ⟨y, hy, rfl⟩ := List.mem_map.1 hx
    exact hS y hy
  · intro x hx
    obtain ⟨y, hy, rfl⟩ := List.mem_map.1 hx
    exact loadI_bd' L h y
theorem own_grow_t {X Y : World} {base : Nat} {e : TypeId} {s n : Nat} {v : Value} {xs : List Value} (h : X.ownsRow base e s v n xs) (he : Ext X Y) : Y.ownsRow base e s v n xs :=
  h.kept (row := none) ⟨he.os, he.tape, he.output, he.size, fun k hk _ => he.block k hk⟩ (by cases v.ownBlock <;> simp)
theorem own_parts_t {w : World} {base : Nat} {e : TypeId} {v : Value} {n : Nat} {L : List (Int × Int)} (h : w.ownsRow base e 2 v n (L.flatMap encP)) (hl : L.length ≤ 9223372036854775807) : Parts w v L := by
  have hn : L.length = n := by have := h.1; rw [length_flatMap_enc encP_len'] at this; omega
  subst hn
  exact Sl.of_own (enc := encP) (size := 2) encP_len' h hl
set_option maxRecDepth 100000 in
set_option maxHeartbeats 2000000 in
theorem cloadsOf_any (S : List Int) (L : List (Int × Int)) (u v : Value) (w : World) (hs : Ints w u S) (hL : Parts w v L) (hl : S.length ≤ 1000) :
    Calls Try.prog 32 #[u, v] w fun e w' => ∃ v', e = .returned v' ∧ Parts w' v' (cldOf S L) ∧ Ext w w' := by
  obtain ⟨_, a, cap, rfl⟩ := hs.shape
  obtain ⟨_, a2, cap2, rfl⟩ := hL.shape
  obtain ⟨i0, hi, hz0, hz1, hz2⟩ := info_parts' Try.infoL
  have hld : ∀ (X : World) (z : Int), Ext w X → Calls Try.prog 9 #[.slice a2 L.length cap2, .int .i64 z] X fun e w' => e = .returned (.int .i64 (loadI L z)) ∧ Ext X w' := fun X z hX => cload_any L z _ X (hL.ext hX)
  have HLD := hide hld
  have HS := hide hs
  have hlz : (S.length : Int) ≤ 1000 := by omega
  obtain ⟨CS, hcs, hmk⟩ : ∃ CS : Array Value, CS.size = S.length * 2 ∧ ∀ u : World, (Instr.makeSlice 22 (.int .i64 0) (.int .i64 S.length)).run Try.prog u = .ok (.slice (some ⟨u.heap.size, 0, none⟩) 0 S.length) (u.alloc (.cells CS 25)) :=
    ⟨madeCells (Value.agg #[.int .i64 0, .int .i64 0]).cells (S.length * i0.size), by rw [size_madeCells, hz1], fun u => by simpa using run_makeSlice (P := Try.prog) u 22 25 i0 _ Try.underlying22 hi hz0 .i64 .i64 0 S.length (by omega) (by omega) (by rw [hz1]; omega) (by rw [hz2]; omega) (by omega)⟩
  have hom := World.ownsRow_made (base := w.heap.size) (e := 25) (size := 2) w CS S.length (Nat.le_refl _) (by unfold maxLen; omega) hcs
  have HOM := hide hom
  clear hs hL hld hcs hom
  go_enter Try.func32, Try.ntmps32
  go_wp2_with fail
  go_loopw [5, 13] (fun v i wr => ∃ k : Nat, k ≤ S.length ∧ i = .int .i64 k ∧ wr.ownsRow w.heap.size 25 2 v k ((cldOf (S.take k) L).flatMap encP) ∧ Ext w wr)
    (fun _ i _ => S.length - (intOf i).toNat)
  case atStart => exact ⟨0, Nat.zero_le _, rfl, by simpa [cldOf] using HOM.out, (Below.refl _ w).alloc (Nat.le_refl _) _⟩
  case round =>
    obtain ⟨k, hk, rfl, hown, hext⟩ := hrel
    by_cases hlt : k < S.length
    · obtain ⟨b, off, rfl, hbb, hc⟩ := ints_at (HS.out.ext hext) k hlt
      have hsn := cldOf_succ S L k hlt
      obtain ⟨x, hx⟩ : ∃ x, S[k] = x := ⟨_, rfl⟩
      rw [hx] at hc hsn
      obtain ⟨A, hA⟩ : ∃ A, loadI L x = A := ⟨_, rfl⟩
      rw [hA] at hsn
      have HSN := hide hsn
      have HA := hide hA
      have HO := hide hown
      clear hsn hx hA hown
      go_wp2_with fail
      refine (HLD.out _ x hext).mono ?_
      rintro e w7 ⟨rfl, E7⟩
      rw [HA.out]
      have hown := own_grow_t HO.out E7
      have hs7 := (hext.trans E7).size
      go_wp2_with (at_builtin; refine wpList_append_own _ (by rfl) _ _ 22 (by rfl) w.heap.size 25 i0 _ 2 16 Try.underlying22 hi hz0 hz1 hz2 rfl (by decide) _ k _ (by rfl) (hown.alloc _) ⟨w7.heap.size, 0, none⟩ 1 1 [.int .i64 x, .int .i64 A] (by rfl) (by rfl) (World.news_of_block (cs := #[.int .i64 x, .int .i64 A]) (t := 25) (fr := (0, 0)) (heap_alloc_new w7 _)) (by simp [Value.oneCell']) (by unfold maxLen; omega) (by omega) (by simp; omega) ?_; intro v2 w2 hown2 hgrow2 _)
      go_roundw
      case rel => exact ⟨k + 1, hlt, by go_num, by rw [HSN.out, List.flatMap_append]; exact hown2, (hext.trans E7).app hown hgrow2⟩
      case measure => simp [intOf]; omega
    · obtain rfl : k = S.length := by omega
      rw [List.take_length] at hown
      have hp := own_parts_t hown (by rw [cldOf_len]; omega)
      have HP := hide hp
      clear hp hown
      go_wp2
      go_ret
      exact ⟨_, rfl, HP.out, hext⟩
set_option maxRecDepth 100000 in
set_option maxHeartbeats 2000000 in
theorem clos3_any (W : World) (b7 b9 b8 b10 : Nat) (Br : Nat) (key : Int) (S : List Int) (a : Option Addr) (cap : Nat) (L : List (Int × Int)) (a2 : Option Addr) (cap2 : Nat) (p0 : Nat) (I : List Int) (c7 : W.cell? ⟨b7, 0, none⟩ = some (.pointer (some ⟨Br, 0, none⟩))) (c9 : W.cell? ⟨b9, 0, none⟩ = some (.int .u64 key)) (c8 : W.cell? ⟨b8, 0, none⟩ = some (.slice a S.length cap)) (c10 : W.cell? ⟨b10, 0, none⟩ = some (.slice a2 L.length cap2)) (l8 : b8 < W.heap.size) (l7 : b7 < W.heap.size) (l9 : b9 < W.heap.size) (l10 : b10 < W.heap.size)
    (hr : RingAt W (.pointer (some ⟨Br, 0, none⟩)) (ends I).length (pointsOf p0 I)) (hp0 : 0 < p0) (hI : ∀ x ∈ I, I64 x) (hs : Ints W (.slice a S.length cap) S) (hL : Parts W (.slice a2 L.length cap2) L) (hIl : I.length ≤ 1000) (hSl : S.length ≤ 1000) (hSb : ∀ x ∈ S, I64 x) (hL2 : ∀ x ∈ L, 0 ≤ x.2 ∧ x.2 ≤ 2000000) :
    Calls Try.prog 31 #[.pointer (some ⟨b7, 0, none⟩), .pointer (some ⟨b9, 0, none⟩), .pointer (some ⟨b8, 0, none⟩), .pointer (some ⟨b10, 0, none⟩)] W fun e w' => e = .returned (.tuple #[.int .i64 ((pickB (rowOf key (pointsOf p0 I)) S L).getD 0), .bool (pickB (rowOf key (pointsOf p0 I)) S L).isSome]) ∧ Ext W w' := by
  have hd : Ext W W.drew := (Below.refl _ W).drew
  obtain ⟨hb1, hb2⟩ := cldOf_bd S L hSb hL2
  have hlo : ∀ (X : World), Ext W X → Calls Try.prog 32 #[.slice a S.length cap, .slice a2 L.length cap2] X fun e w' => ∃ v', e = .returned v' ∧ Parts w' v' (cldOf S L) ∧ Ext X w' := fun X hX => cloadsOf_any S L _ _ X (hs.ext hX) (hL.ext hX) hSl
  have hpk : ∀ (X : World) (v : Value), Ext W X → Parts X v (cldOf S L) → Calls Try.prog 21 #[.pointer (some ⟨Br, 0, none⟩), .int .u64 key, .slice a S.length cap, v, .int .i64 125] X fun e w' => e = .returned (.tuple #[.int .i64 ((pickB (rowOf key (pointsOf p0 I)) S L).getD 0), .bool (pickB (rowOf key (pointsOf p0 I)) S L).isSome]) ∧ Ext X w' := fun X v hX hv => by
    have := pick_any I S (cldOf S L) p0 key 125 (.pointer (some ⟨Br, 0, none⟩)) (.slice a S.length cap) v X (hr.ext hX) (hs.ext hX) hv hp0 hIl hI hSl hSb (by rw [cldOf_len]; exact hSl) hb1 hb2 (by omega)
    rwa [pickB_ldOf] at this
  have HLO := hide hlo
  have HPK := hide hpk
  have hc8 : ∀ X : World, Ext W.drew X → X.cell? ⟨b7, 0, none⟩ = some (.pointer (some ⟨Br, 0, none⟩)) ∧ X.cell? ⟨b9, 0, none⟩ = some (.int .u64 key) ∧ X.cell? ⟨b8, 0, none⟩ = some (.slice a S.length cap) ∧ X.cell? ⟨b10, 0, none⟩ = some (.slice a2 L.length cap2) := fun X hX => ⟨(hX.cell (p := ⟨b7, 0, none⟩) l7).trans c7, (hX.cell (p := ⟨b9, 0, none⟩) l9).trans c9, (hX.cell (p := ⟨b8, 0, none⟩) l8).trans c8, (hX.cell (p := ⟨b10, 0, none⟩) l10).trans c10⟩
  have HC8 := hide hc8
  have HD := hide hd
  clear hlo hpk hr hs hL hc8 hd hSb hL2 hb1 hb2
  go_enter Try.func31, Try.ntmps31
  go_wp2_with fail
  go_region_held3 (fun w' => w'.cell? ⟨b7, 0, none⟩ = some (.pointer (some ⟨Br, 0, none⟩)) ∧ w'.cell? ⟨b9, 0, none⟩ = some (.int .u64 key) ∧ w'.cell? ⟨b8, 0, none⟩ = some (.slice a S.length cap) ∧ w'.cell? ⟨b10, 0, none⟩ = some (.slice a2 L.length cap2))
    (first
      | exact HC8.out _ (E7.trans E8)
      | exact HC8.out _ E7
      | exact HC8.out _ (Below.refl _ _))
    (first
      | (go_at_call 21; refine (HPK.out _ _ (HD.out.trans E7) hv7).mono ?_; rintro e w8 ⟨rfl, E8⟩)
      | (go_at_call 32; refine (HLO.out _ HD.out).mono ?_; rintro e w7 ⟨v7, rfl, hv7, E7⟩))
  all_goals
    go_wp2
    go_ret2
    exact ⟨rfl, HD.out.trans (E7.trans E8)⟩
set_option maxRecDepth 100000 in
set_option maxHeartbeats 4000000 in
theorem pick3_any (w : World) (S : List Int) (a : Option Addr) (cap : Nat) (a2 : Option Addr) (n2 cap2 : Nat) (Br Bd : Nat) (key : Int) (p0 : Nat) (I : List Int) (hn : 0 < S.length)
    (hr : RingAt w (.pointer (some ⟨Br, 0, none⟩)) (ends I).length (pointsOf p0 I)) (hp0 : 0 < p0) (hI : ∀ x ∈ I, I64 x) (hs : Ints w (.slice a S.length cap) S) (L : List (Int × Int)) (hL : Parts w (.slice a2 L.length cap2) L) (hn2 : L.length = n2) (hIl : I.length ≤ 1000) (hSl : S.length ≤ 1000) (hSb : ∀ x ∈ S, I64 x) (hL2 : ∀ x ∈ L, 0 ≤ x.2 ∧ x.2 ≤ 2000000) :
    Calls Try.prog 16 #[.int .i64 3, .pointer (some ⟨Br, 0, none⟩), .slice a S.length cap, .int .u64 key, .slice a2 n2 cap2, .pointer (some ⟨Bd, 0, none⟩)] w fun e w' => e = .returned (.tuple #[.int .i64 ((pickB (rowOf key (pointsOf p0 I)) S L).getD 0), .bool (pickB (rowOf key (pointsOf p0 I)) S L).isSome]) ∧ Ext w w' := by
  have hls := hs.shape.1
  obtain ⟨n, hnn⟩ : ∃ n, S.length = n := ⟨_, rfl⟩
  have HNN := hide hnn
  rw [hnn] at hn hs ⊢
  have hnz : ((n : Int) == 0) = false := beq_eq_false_iff_ne.2 (by omega)
  have hmm := @run_makeMap Try.prog
  have HR := hide hr
  have HSS := hide hs
  subst hn2
  have HLL := hide hL
  have HSB := hide hSb
  have HL2 := hide hL2
  clear hr hs hnn hL hSb hL2
  obtain ⟨N, hN⟩ : ∃ N, w.heap.size = N := ⟨_, rfl⟩
  obtain ⟨R, hR1, hR2, hR3, hRn, _, _, hS3, _⟩ := ways_read (.func (.func 26) #[] #[.pointer (some ⟨w.heap.size + 1, 0, none⟩), .pointer (some ⟨w.heap.size + 1 + 1 + 1, 0, none⟩), .pointer (some ⟨w.heap.size + 1 + 1 + 1 + 1, 0, none⟩)])
    (.func (.func 28) #[] #[.pointer (some ⟨w.heap.size, 0, none⟩), .pointer (some ⟨w.heap.size + 1 + 1, 0, none⟩), .pointer (some ⟨w.heap.size + 1, 0, none⟩)])
    (.func (.func 31) #[] #[.pointer (some ⟨w.heap.size, 0, none⟩), .pointer (some ⟨w.heap.size + 1 + 1, 0, none⟩), .pointer (some ⟨w.heap.size + 1, 0, none⟩), .pointer (some ⟨w.heap.size + 1 + 1 + 1, 0, none⟩)])
    (fn_ne _ _ _ _ _ _ (by decide)) (fn_ne _ _ _ _ _ _ (by decide)) (fn_ne _ _ _ _ _ _ (by decide)) (fun e => by cases e) (fun e => by cases e) (fun e => by cases e)
  have HS3 := hide hS3
  clear hS3 hN
  have hown0 := World.ownsMap_made ((((((w.alloc (.cells #[.pointer (some ⟨Br, 0, none⟩)] 37)).alloc (.cells #[.slice a n cap] 28)).alloc (.cells #[.int .u64 key] 29)).alloc (.cells #[.slice a2 L.length cap2] 22)).alloc (.cells #[.pointer (some ⟨Bd, 0, none⟩)] 32))) Try.prog 3 R
  have hsz : ((((((w.alloc (.cells #[.pointer (some ⟨Br, 0, none⟩)] 37)).alloc (.cells #[.slice a n cap] 28)).alloc (.cells #[.int .u64 key] 29)).alloc (.cells #[.slice a2 L.length cap2] 22)).alloc (.cells #[.pointer (some ⟨Bd, 0, none⟩)] 32))).heap.size = w.heap.size + 1 + 1 + 1 + 1 + 1 := by simp
  rw [hsz] at hown0
  have e6 : Ext w (((((((w.alloc (.cells #[.pointer (some ⟨Br, 0, none⟩)] 37)).alloc (.cells #[.slice a n cap] 28)).alloc (.cells #[.int .u64 key] 29)).alloc (.cells #[.slice a2 L.length cap2] 22)).alloc (.cells #[.pointer (some ⟨Bd, 0, none⟩)] 32))).alloc (.map #[] 0)) := by
    refine Below.alloc (Below.alloc (Below.alloc (Below.alloc (Below.alloc (Below.alloc (Below.refl _ w) (Nat.le_refl _) _) ?_ _) ?_ _) ?_ _) ?_ _) ?_ _ <;> simp <;> omega
  have k8 : (((((((w.alloc (.cells #[.pointer (some ⟨Br, 0, none⟩)] 37)).alloc (.cells #[.slice a n cap] 28)).alloc (.cells #[.int .u64 key] 29)).alloc (.cells #[.slice a2 L.length cap2] 22)).alloc (.cells #[.pointer (some ⟨Bd, 0, none⟩)] 32))).alloc (.map #[] 0)).cell? ⟨w.heap.size + 1, 0, none⟩ = some (.slice a n cap) := by go_simp
  have k9 : (((((((w.alloc (.cells #[.pointer (some ⟨Br, 0, none⟩)] 37)).alloc (.cells #[.slice a n cap] 28)).alloc (.cells #[.int .u64 key] 29)).alloc (.cells #[.slice a2 L.length cap2] 22)).alloc (.cells #[.pointer (some ⟨Bd, 0, none⟩)] 32))).alloc (.map #[] 0)).cell? ⟨w.heap.size + 1 + 1, 0, none⟩ = some (.int .u64 key) := by go_simp
  have k7 : (((((((w.alloc (.cells #[.pointer (some ⟨Br, 0, none⟩)] 37)).alloc (.cells #[.slice a n cap] 28)).alloc (.cells #[.int .u64 key] 29)).alloc (.cells #[.slice a2 L.length cap2] 22)).alloc (.cells #[.pointer (some ⟨Bd, 0, none⟩)] 32))).alloc (.map #[] 0)).cell? ⟨w.heap.size, 0, none⟩ = some (.pointer (some ⟨Br, 0, none⟩)) := by go_simp
  have k10 : (((((((w.alloc (.cells #[.pointer (some ⟨Br, 0, none⟩)] 37)).alloc (.cells #[.slice a n cap] 28)).alloc (.cells #[.int .u64 key] 29)).alloc (.cells #[.slice a2 L.length cap2] 22)).alloc (.cells #[.pointer (some ⟨Bd, 0, none⟩)] 32))).alloc (.map #[] 0)).cell? ⟨w.heap.size + 1 + 1 + 1, 0, none⟩ = some (.slice a2 L.length cap2) := by go_simp
  have ks : (((((((w.alloc (.cells #[.pointer (some ⟨Br, 0, none⟩)] 37)).alloc (.cells #[.slice a n cap] 28)).alloc (.cells #[.int .u64 key] 29)).alloc (.cells #[.slice a2 L.length cap2] 22)).alloc (.cells #[.pointer (some ⟨Bd, 0, none⟩)] 32))).alloc (.map #[] 0)).heap.size = w.heap.size + 1 + 1 + 1 + 1 + 1 + 1 := by simp
  obtain ⟨w1, hrun1, hown1, hg1⟩ := hown0.update lawI Try.underlying61 (by decide) (keyI (z := 1) (by unfold I64; omega)) hR1
  obtain ⟨w2, hrun2, hown2, hg2⟩ := hown1.update lawI Try.underlying61 (by decide) (keyI (z := 2) (by unfold I64; omega)) hR2
  obtain ⟨w3, hrun3, hown3, hg3⟩ := hown2.update lawI Try.underlying61 (by decide) (keyI (z := 3) (by unfold I64; omega)) hR3
  obtain ⟨v, ps, hlook, hv⟩ := hown3.look_ok lawI Try.underlying61 (zeroF _) (zd := .lit (.int .i64 0)) (zp := []) hRn (keyI (z := 3) (by unfold I64; omega))
  have hh : Maps.has ((((DataW.map [] : DataW Nat).put (.int .i64 1) (.lit (.int .i64 1))).put (.int .i64 2) (.lit (.int .i64 2))).put (.int .i64 3) (.lit (.int .i64 3))) (.int .i64 3) = true := by rfl
  rw [hh] at hlook
  have hv1 := HS3.out v ps hv
  subst hv1
  have hgg := grown_trans (grown_trans hg1 hg2) hg3
  have m8 := (cell_grown hgg (p := ⟨w.heap.size + 1, 0, none⟩) (by rw [ks]; simp) (by simp)).trans k8
  have m9 := (cell_grown hgg (p := ⟨w.heap.size + 1 + 1, 0, none⟩) (by rw [ks]; simp) (by simp)).trans k9
  have m10 := (cell_grown hgg (p := ⟨w.heap.size + 1 + 1 + 1, 0, none⟩) (by rw [ks]; simp) (by simp)).trans k10
  have m7 := (cell_grown hgg (p := ⟨w.heap.size, 0, none⟩) (by rw [ks]; simp; omega) (by simp; omega)).trans k7
  have hE : Ext w w3 := Below.grown e6 hgg (by rw [ks]; omega) (fun r hr => by cases hr; omega)
  have hgs := hgg.size
  rw [ks] at hgs
  have hss := HSS.out.ext hE
  have hll := HLL.out.ext hE
  rw [← HNN.out] at m8 hss
  have hcl := clos3_any w3 _ _ _ _ Br key S a cap L a2 cap2 p0 I m7 m9 m8 m10 (by omega) (by omega) (by omega) (by omega) (HR.out.ext hE) hp0 hI hss hll hIl (by have := HNN.out; omega) HSB.out HL2.out
  have HE := hide hE
  have HCL := hide hcl
  clear hown0 hown1 hown2 hown3 hg1 hg2 hg3 hgg k8 k9 k7 k10 m8 m9 m7 m10 hv hE hcl ks e6 hsz hR1 hR2 hR3 hRn hgs hss hll
  have eg : ∀ args w, (callFunc 31 args).run Try.prog w = .ok (.enter 31 args) w := enters_of Try.func31 (by kernel_rfl) rfl
  go_enter Try.func16, Try.ntmps16
  go_wp2_with fail
  refine HCL.out.mono ?_
  rintro e w9 ⟨rfl, E9⟩
  go_wp2_with fail
  go_ret2
  exact ⟨rfl, HE.out.trans E9⟩
end Go.Proofs.Ytoncfogihiapiaa
