/- Merged texts (RingN, RingN2). -/
import Derived.Deep.RegionHeld3
import Derived.Deep.RegionLaw
import Derived.Deep.AppendLies
import Derived.Test.YtkhebanpplokdaaGreatDoorZri
namespace Go.Proofs.YtkhebanpplokdaaGreatDoor.Rg
open Go.ChangeShapes Go.WideShapes Go.ChangeAt Go.RowKit Go.Sort
theorem encI_len (x : Int) : (encI x).length = 1 := rfl
/-- a ring: n ends, and these points -/
def RingAt (w : World) (r : Value) (n : Nat) (P : List (Int × Int)) : Prop :=
 n ≤ 1000 ∧ P.length ≤ 100000 ∧ ∃ B a cap, r = .pointer (some ⟨B, 0, none⟩) ∧ w.heap[B]? = some (.cells #[.slice a P.length cap, .int .i64 n] 161 (0, 0)) ∧ Pts w (.slice a P.length cap) P
theorem RingAt.ext {w w' : World} {r : Value} {n : Nat} {P : List (Int × Int)} (h : RingAt w r n P) (e : Ext w w') : RingAt w' r n P := by
 obtain ⟨h0, h00, B, a, cap, h1, h2, h3⟩ := h
 exact ⟨h0, h00, B, a, cap, h1, (e.block B (Array.getElem?_eq_some_iff.1 h2).1).trans h2, h3.ext e⟩
/-- a ring whose blocks are no older than base -/
def RingNew (base : Nat) (w : World) (r : Value) (n : Nat) (P : List (Int × Int)) : Prop :=
 n ≤ 1000 ∧ P.length ≤ 100000 ∧ ∃ B a cap, r = .pointer (some ⟨B, 0, none⟩) ∧ w.heap[B]? = some (.cells #[.slice a P.length cap, .int .i64 n] 161 (0, 0)) ∧ Pts w (.slice a P.length cap) P ∧ base ≤ B ∧ ∀ ad, a = some ad → base ≤ ad.block
theorem RingNew.at {base : Nat} {w : World} {r : Value} {n : Nat} {P : List (Int × Int)} (h : RingNew base w r n P) : RingAt w r n P := by
 obtain ⟨h0, h00, B, a, cap, h1, h2, h3, _⟩ := h
 exact ⟨h0, h00, B, a, cap, h1, h2, h3⟩
theorem RingNew.ext {base : Nat} {w w' : World} {r : Value} {n : Nat} {P : List (Int × Int)} (h : RingNew base w r n P) (e : Ext w w') : RingNew base w' r n P := by
 obtain ⟨h0, h00, B, a, cap, h1, h2, h3, h4⟩ := h
 exact ⟨h0, h00, B, a, cap, h1, (e.block B (Array.getElem?_eq_some_iff.1 h2).1).trans h2, h3.ext e, h4⟩
theorem RingNew.set {base : Nat} {w : World} {r : Value} {n : Nat} {P : List (Int × Int)} (h : RingNew base w r n P) (g j : Nat) (u : Value) (hg : g < base) : RingNew base (w.setCell ⟨g, j, none⟩ u) r n P := by
 obtain ⟨h0, h00, B, a, cap, h1, h2, h3, h4, h5⟩ := h
 refine ⟨h0, h00, B, a, cap, h1, (Below.heap_setCell w _ u B (by simp; omega)).trans h2, ?_, h4, h5⟩
 obtain ⟨q1, a', cap', q2, q3, q4⟩ := h3
 refine ⟨q1, a', cap', q2, q3, fun i x hi => ?_⟩
 obtain ⟨b, off, ha, hb, hc⟩ := q4 i x hi
 have hab : base ≤ b := by
  simp only [Value.slice.injEq] at q2
  exact h5 ⟨b, off, none⟩ (q2.1.trans ha)
 have hbl : (w.setCell ⟨g, j, none⟩ u).heap[b]? = w.heap[b]? := Below.heap_setCell w _ u b (by simp; omega)
 refine ⟨b, off, ha, by show b < (w.heap.modify g _).size; rw [Array.size_modify]; exact hb, fun k v hk => ?_⟩
 have := hc k v hk
 simp only [World.cell?, hbl] at this ⊢
 exact this
theorem ring_kept {wr w6 : World} {o X : Obj} {B : Nat} {e : TypeId} {s n : Nat} {v : Value} {xs : List Value} (hB : wr.heap[B]? = some X) (hown : wr.ownsRow (B + 1) e s v n xs) (hg : (wr.alloc o).drew.grownBy w6 v.ownBlock) : w6.heap[B]? = some X := by
 have hl := (Array.getElem?_eq_some_iff.1 hB).1
 refine (hg.block B ?_ ?_).trans ((Below.heap_alloc wr o B hl).trans hB)
 ·show B < (wr.alloc o).heap.size
  simp; omega
 ·intro e
  have := (hown.lt B e.symm).1
  omega
theorem own_shape {w : World} {B : Nat} {e : TypeId} {s n : Nat} {v : Value} {xs : List Value} (h : w.ownsRow B e s v n xs) : ∃ a c, v = .slice a n c := by
 rcases h.2 with ⟨rfl, h0⟩ | ⟨g, cap, cur, rfl, _⟩
 ·exact ⟨_, _, by rw [h0]⟩
 ·exact ⟨_, _, rfl⟩
theorem own_set {w : World} {base B : Nat} {e : TypeId} {s n : Nat} {v : Value} {xs : List Value} (h : w.ownsRow base e s v n xs) (hB : B < base) (o : Nat) (u : Value) : (w.setCell ⟨B, o, none⟩ u).ownsRow base e s v n xs := by
 refine ⟨h.1, ?_⟩
 rcases h.2 with hn | ⟨g, cap, cur, rfl, hb, hgg, rest⟩
 ·exact .inl hn
 ·exact .inr ⟨g, cap, cur, rfl, hb, (Below.heap_setCell w _ u g (by simp; omega)).trans hgg, rest⟩
theorem set_ring {w : World} {B : Nat} {a b : Value} {t : TypeId} (h : w.heap[B]? = some (.cells #[a, b] t (0, 0))) (u : Value) : (w.setCell ⟨B, 0, none⟩ u).heap[B]? = some (.cells #[u, b] t (0, 0)) := by
 obtain ⟨hlt, hk⟩ := Array.getElem?_eq_some_iff.1 h
 show (w.heap.modify B _)[B]? = _
 rw [Array.getElem?_eq_getElem (by rw [Array.size_modify]; exact hlt), Array.getElem_modify_self, hk]
 rfl
theorem cell_of2 {w : World} {B : Nat} {a b : Value} {t : TypeId} (h : w.heap[B]? = some (.cells #[a, b] t (0, 0))) : w.cell? ⟨B, 0, none⟩ = some a := by simp [World.cell?, h]
theorem frozen_of2 {w : World} {B : Nat} {a b : Value} {t : TypeId} (h : w.heap[B]? = some (.cells #[a, b] t (0, 0))) : w.frozen? ⟨B, 0, none⟩ = false := by simp [World.frozen?, h]
theorem raw_len (p : Nat) (E : List Int) : (raw p E).length = E.length * p := by
 unfold raw
 induction E with
 | nil => simp
 | cons e E ih => simp [ptsOf, ih, Nat.add_mul]; omega
theorem raw_take (p : Nat) (E : List Int) (i : Nat) (h : i < E.length) : raw p (E.take (i+1)) = raw p (E.take i) ++ ptsOf p E[i] := by
 unfold raw; rw [take_snoc E i h, List.flatMap_append]; simp
theorem pts_succ (p : Nat) (id : Int) : ptsOf (p+1) id = ptsOf p id ++ [(mix (mix 0 (w64 id)) (p : Int), id)] := by simp [ptsOf, List.range_succ]
set_option maxRecDepth 100000 in
set_option maxHeartbeats 2000000 in
theorem new_some (ids : List Int) (ad : Addr) (cap : Nat) (p : Nat) (w : World) (hs : Ints w (.slice (some ad) ids.length cap) ids) (hp : 1 ≤ p ∧ p ≤ 64) (hl : ids.length ≤ 1000) :
  Calls Tryz.prog 34 #[.slice (some ad) ids.length cap, .int .i64 p] w fun e w' => ∃ r, e = .returned r ∧ RingNew w.heap.size w' r (ends ids).length (pointsOf p ids) ∧ Ext w w' := by
 obtain ⟨i0, hi, hz0, hz1, hz2⟩ := info_parts' Tryz.infoI
 obtain ⟨iq, hq, hq0, hq1, hq2⟩ := info_parts' Tryz.infoQ
 have hid : ∀ u ∈ ids.flatMap encI, u.oneCell' = true := by
  rw [flat_encI]; intro u hu; obtain ⟨x, _, rfl⟩ := List.mem_map.1 hu; rfl
 have hfl : (ids.flatMap encI).length = ids.length * 1 := length_flatMap_enc encI_len ids
 have HC := hide hs; clear hs
 have HO := hide hid; clear hid
 have HF := hide hfl; clear hfl
 go_enter Tryz.func34, Tryz.ntmps34
 go_wp2_with (at_builtin; refine wpList_append_own _ (by rfl) _ _ 22 (by rfl) w.heap.size 3 i0 (.int .i64 0) 1 8 Tryz.underlying22 hi hz0 hz1 hz2 rfl (by decide) (.slice none 0 0) 0 [] (by rfl) (World.ownsRow_nil _ _ _ _) ad ids.length cap (ids.flatMap encI) (by rfl) HF.out (HC.out.news encI_len (by decide)) HO.out (by unfold maxLen; omega) (by omega) (by omega) ?_; intro v1 w1 hown1 hgrow1 _)
 rw [Nat.zero_add, List.nil_append] at hown1
 have E1 : Ext w w1 := Below.grown (Below.refl _ _) hgrow1 (Nat.le_refl _) (by intro r hr; simp [Value.ownBlock] at hr)
 have hs1 := E1.size
 go_wp2_with fail
 refine (sort_own hown1 (by omega) hs1).mono ?_
 rintro e w2 ⟨rfl, hown2, B2⟩
 have hs2 := Nat.le_trans hs1 B2.size
 go_wp2_with fail
 refine (compact_own hown2 (by omega) hs2).mono ?_
 rintro e w3 ⟨v3, rfl, hown3, B3⟩
 have hs3 := Nat.le_trans hs2 B3.size
 have E3 : Ext w w3 := Below.trans E1 (Below.trans B2 B3)
 have HE3 := hide E3
 have hel : (ends ids).length ≤ ids.length := by rw [← (srtI_perm ids).length_eq]; exact Go.Lib.compact_length_le _
 change w3.ownsRow w.heap.size 3 1 v3 (ends ids).length ((ends ids).flatMap encI) at hown3
 have hrl : ∀ k, k ≤ (ends ids).length → (raw p ((ends ids).take k)).length = k * p := fun k hk => by rw [raw_len, List.length_take]; congr 1; omega
 have hpts : pointsOf p ids = srtP (raw p (ends ids)) := rfl
 have HPT := hide hpts; clear hpts
 obtain ⟨E, hEE⟩ : ∃ E, ends ids = E := ⟨_, rfl⟩
 rw [hEE] at hown3 hel hrl HPT
 have HEE := hide hEE
 clear hEE
 have hEI := own_ints hown3 (by omega)
 obtain ⟨_, a3, c3, rfl⟩ := hEI.shape
 have HEI := hide hEI
 have HRL := hide hrl
 have hkp : ∀ k, k ≤ E.length → k * p ≤ 64000 := fun k hk => by
  have := Nat.mul_le_mul (show k ≤ 1000 by omega) hp.2
  omega
 have HKP := hide hkp
 clear hEI hown3 hown2 hown1 B2 B3 E1 hrl hkp E3
 have hel' : (E.length : Int) ≤ 1000 := by omega
 have B0 : Below w3.heap.size w3 (w3.alloc (.cells #[.slice none 0 0, .int .i64 E.length] 161)) := (Below.refl _ _).alloc (Nat.le_refl _) _
 go_wp2_with fail
 go_loopw [23] (fun i wr => ∃ k : Nat, k ≤ E.length ∧ i = .int .i64 k ∧ ∃ v, wr.heap[w3.heap.size]? = some (.cells #[v, .int .i64 E.length] 161 (0, 0)) ∧ wr.ownsRow (w3.heap.size + 1) 165 2 v (k * p) ((raw p (E.take k)).flatMap encQ) ∧ Below w3.heap.size w3 wr)
  (fun i _ => E.length - (intOf i).toNat)
 case atStart => exact ⟨0, Nat.zero_le _, rfl, _, heap_alloc_new w3 _, by simpa [raw] using World.ownsRow_nil _ _ _ _, B0⟩
 case round =>
  obtain ⟨k, hk, rfl, v, hB, hown, hb⟩ := hrel
  by_cases hlt : k < E.length
  ·obtain ⟨b, off, rfl, hbb, hc⟩ := ints_at (HEI.out.ext hb) k hlt
   obtain ⟨id, hid⟩ : ∃ id, E[k] = id := ⟨_, rfl⟩
   rw [hid] at hc
   have hmin : min (p : Int) 64 = p := by omega
   go_wp2_with fail
   refine (mix_any 0 (w64 id) _ (by unfold U64; omega) (w64_bd _)).mono ?_
   rintro e w5 ⟨rfl, rfl⟩
   go_wp2_with fail
   go_loopw [32] (fun i wr => ∃ j : Nat, j ≤ p ∧ i = .int .i64 j ∧ ∃ v, wr.heap[w3.heap.size]? = some (.cells #[v, .int .i64 E.length] 161 (0, 0)) ∧ wr.ownsRow (w3.heap.size + 1) 165 2 v (k * p + j) ((raw p (E.take k) ++ ptsOf j id).flatMap encQ) ∧ Below w3.heap.size w3 wr)
    (fun i _ => p - (intOf i).toNat)
   case atStart => exact ⟨0, Nat.zero_le _, rfl, v, hB, by simpa [ptsOf] using hown, hb⟩
   case round =>
    obtain ⟨j, hj, rfl, v', hB', hown', hb'⟩ := hrel
    by_cases hjl : j < p
    ·have hju : U64 (j : Int) := by unfold U64; omega
     have hwj : IntKind.u64.wrap (j : Int) = (j : Int) := by
      have : IntKind.u64.wrap (j : Int) = (j : Int) % 18446744073709551616 := by simp [IntKind.wrap, IntKind.signed, IntKind.bits]
      rw [this]; omega
     have hkpk := HKP.out k hk
     have hbs := hb'.size
     have cv : wr.cell? ⟨w3.heap.size, 0, none⟩ = some v' := by simp [World.cell?, hB']
     have fv : wr.frozen? ⟨w3.heap.size, 0, none⟩ = false := by simp [World.frozen?, hB']
     have hlt2 : w3.heap.size < wr.heap.size := (Array.getElem?_eq_some_iff.1 hB').1
     have HJU := hide hju; clear hju
     go_wp2_with fail
     go_region_law (first
      | (refine step_append_own (by rfl) _ _ _ (by rfl) (w3.heap.size + 1) 165 iq _ 2 16 Tryz.underlying159 hq hq0 hq1 hq2 rfl (by omega) v' (k * p + j) _ (by rfl) ((hown'.alloc _).drew) ⟨wr.heap.size, 0, none⟩ 1 1 [.int .u64 (mix (mix 0 (w64 id)) j), .int .i64 id] (by rfl) (by rfl) (World.news_of_block (cs := #[.int .u64 (mix (mix 0 (w64 id)) j), .int .i64 id]) (t := 165) (fr := (0, 0)) (heap_alloc_new wr _)) (by simp [Value.oneCell']) (by unfold maxLen; omega) (by omega) (by simp; omega) ?_; intro v2 w6 hown2 hgrow2 _; obtain ⟨a2, c2, rfl⟩ := own_shape hown2; have hB6 := ring_kept hB' hown' hgrow2; have cv6 := cell_of2 hB6; have fv6 := frozen_of2 hB6)
      | (go_simp; go_at_call 83; refine (mix_any (mix 0 (w64 id)) j _ (mix_bd _ _) HJU.out).mono ?_; rintro e w7 ⟨rfl, rfl⟩))
     all_goals
      have hb6 : Below w3.heap.size w3 w6 := ((hb'.alloc hbs _).drew).grown hgrow2 (by simp; omega) (fun r hr => by have := (hown'.lt r hr).1; omega)
      have hb7 := hb6.setCell (p := ⟨w3.heap.size, 0, none⟩) (Nat.le_refl _) (.slice a2 (k * p + j + 1) c2)
      have hB7 := set_ring hB6 (.slice a2 (k * p + j + 1) c2)
      have hown7 := own_set hown2 (B := w3.heap.size) (by omega) 0 (.slice a2 (k * p + j + 1) c2)
      clear cv6 fv6 hB6 hown2 hgrow2 hb6 cv fv
      go_wp2_with fail
      go_roundw
      case rel => exact ⟨j + 1, hjl, by go_num, _, hB7, by rw [pts_succ, ← List.append_assoc, List.flatMap_append]; exact hown7, hb7⟩
      case measure => simp [intOf]; omega
    ·obtain rfl : j = p := by omega
     go_wp2_with fail
     go_roundw
     case rel => exact ⟨k + 1, hlt, by go_num, _, hB', by rw [raw_take _ _ _ hlt, hid, Nat.succ_mul]; exact hown', hb'⟩
     case measure => simp [intOf]; omega
  ·obtain rfl : k = E.length := by omega
   have hkp := HKP.out E.length (Nat.le_refl _)
   have hbs := hb.size
   obtain ⟨a6, c6, rfl⟩ := own_shape hown
   have hab : ∀ ad, a6 = some ad → w3.heap.size + 1 ≤ ad.block := fun ad e => (hown.lt ad.block (by rw [e]; rfl)).1
   have HAB := hide hab
   clear hab
   have cv := cell_of2 hB
   rw [List.take_length] at hown
   have hBl : w3.heap.size < wr.heap.size := (Array.getElem?_eq_some_iff.1 hB).1
   have hrl : (raw p E).length = E.length * p := raw_len p E
   have HOWN := hide hown; clear hown
   have HBB := hide hB; clear hB
   go_wp2_with fail
   refine (sortf_own HOWN.out (by omega) (by omega)).mono ?_
   rintro e w5 ⟨rfl, hP, b5⟩
   go_wp2_with fail
   go_ret
   have hsl : (srtP (raw p E)).length = E.length * p := by rw [(srtP_perm _).length_eq, hrl]
   refine ⟨_, rfl, ⟨by rw [HEE.out]; omega, ?_, w3.heap.size, a6, c6, rfl, ?_, ?_⟩, ?_⟩
   ·rw [HPT.out, hsl]; omega
   ·rw [HPT.out, hsl, HEE.out]; exact (b5.block _ (by omega)).trans HBB.out
   ·refine ⟨by rw [HPT.out, hsl]; exact hP, by omega, fun ad e => by have := HAB.out ad e; omega⟩
   ·exact HE3.out.trans (hb.trans (b5.mono (by omega)))
end Go.Proofs.YtkhebanpplokdaaGreatDoor.Rg
namespace Go.Proofs.YtkhebanpplokdaaGreatDoor.Rg
open Go.ChangeShapes Go.WideShapes Go.ChangeAt Go.RowKit Go.Sort
set_option maxRecDepth 100000 in
set_option maxHeartbeats 2000000 in
theorem new_none (cap : Nat) (p : Nat) (w : World) (_hp : 1 ≤ p ∧ p ≤ 64) :
  Calls Tryz.prog 34 #[.slice none 0 cap, .int .i64 p] w fun e w' => ∃ r, e = .returned r ∧ RingNew w.heap.size w' r (ends []).length (pointsOf p []) ∧ Ext w w' := by
 go_enter Tryz.func34, Tryz.ntmps34
 go_wp2_with fail
 refine (Any.slices_Sort_int_none Tryz.l189 none 0 w).mono ?_
 rintro e w1 ⟨rfl, rfl⟩
 go_wp2_with fail
 refine (Any.slices_Compact_int_empty Tryz.l220 none 0 w1).mono ?_
 rintro e w2 ⟨rfl, rfl⟩
 have B0 : Ext w2 (w2.alloc (.cells #[.slice none 0 0, .int .i64 0] 161)) := (Below.refl _ _).alloc (Nat.le_refl _) _
 have hB := heap_alloc_new w2 (.cells #[.slice none 0 0, .int .i64 0] 161)
 have cv := cell_of2 hB
 have hsz : (w2.alloc (.cells #[.slice none 0 0, .int .i64 0] 161)).heap.size = w2.heap.size + 1 := by simp
 have HB := hide hB; clear hB
 go_wp2_with fail
 go_loopw [23] (fun i wr => i = .int .i64 0 ∧ wr = w2.alloc (.cells #[.slice none 0 0, .int .i64 0] 161)) (fun _ _ => 0)
 case atStart => exact ⟨rfl, rfl⟩
 case round =>
  obtain ⟨rfl, rfl⟩ := hrel
  go_wp2_with fail
  refine (sortf_own (ps := []) (World.ownsRow_nil _ (w2.heap.size + 1) _ _) (by omega) (by simp)).mono ?_
  rintro e w5 ⟨rfl, hP, b5⟩
  go_wp2_with fail
  go_ret
  have e1 : ends [] = [] := by simp [ends, srtI, Go.Lib.compact, Go.Lib.compactUpTo]
  have e2 : pointsOf p [] = [] := by rw [pointsOf, e1]; simp [raw, srtP]
  have e3 : srtP [] = [] := by simp [srtP]
  rw [e3] at hP
  refine ⟨_, rfl, ⟨by rw [e1]; simp, by rw [e2]; simp, w2.heap.size, none, 0, rfl, ?_, ?_⟩, ?_⟩
  ·rw [e2, e1]; exact (b5.block _ (by omega)).trans HB.out
  ·exact ⟨by rw [e2]; exact hP, Nat.le_refl _, fun ad e => by cases e⟩
  ·exact B0.trans (Below.mono b5 (by omega))
theorem new_fresh (ids : List Int) (v : Value) (p : Nat) (w : World) (hs : Ints w v ids) (hp : 1 ≤ p ∧ p ≤ 64) (hl : ids.length ≤ 1000) :
  Calls Tryz.prog 34 #[v, .int .i64 p] w fun e w' => ∃ r, e = .returned r ∧ RingNew w.heap.size w' r (ends ids).length (pointsOf p ids) ∧ Ext w w' := by
 obtain ⟨_, a, cap, rfl⟩ := hs.shape
 cases a with
 | none =>
  have h0 : ids = [] := by
   cases ids with
   | nil => rfl
   | cons x xs => obtain ⟨b, off, e, _⟩ := hs.some (by simp); cases e
  subst h0
  exact new_none cap p w hp
 | some ad => exact new_some ids ad cap p w hs hp hl
end Go.Proofs.YtkhebanpplokdaaGreatDoor.Rg
