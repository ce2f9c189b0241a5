/- Merged texts (App, RowB, ChV, ChW, ChX). -/
import Derived.Test.YtofjcokclegkhaaGreatDoorZrk
import Derived.Test.YtofjcokclegkhaaGreatDoorZhr

/- 'append' of a slice that may be nil, to a row of the call's own. -/
namespace Go.Proofs.YtofjcokclegkhaaGreatDoor.Rg
open Go.ChangeShapes Go.WideShapes Go.ChangeAt Go.RowKit Go.Sort Go.Shelf
/-- a slice whose cells read so: nil, or with cells -/
def SrcI (w : World) (xv : Value) (I : List Int) : Prop := (xv = .slice none 0 0 ∧ I = []) ∨ ∃ ad c, xv = .slice (some ad) I.length c ∧ Ints w (.slice (some ad) I.length c) I
theorem SrcI.ext {w w' : World} {xv : Value} {I : List Int} (h : SrcI w xv I) (e : Ext w w') : SrcI w' xv I := by
 rcases h with h | ⟨ad, c, h1, h2⟩
 ·exact .inl h
 ·exact .inr ⟨ad, c, h1, h2.ext e⟩
end Go.Proofs.YtofjcokclegkhaaGreatDoor.Rg

/- What the reference's row of a ring leans on. -/
namespace Go.Proofs.YtofjcokclegkhaaGreatDoor.Rg
open Go.ChangeShapes Go.WideShapes Go.ChangeAt Go.RowKit Go.Sort Go.Shelf
theorem own_ints_b {w : World} {base : Nat} {v : Value} {n : Nat} {zs : List Int} (h : w.ownsRow base 3 1 v n (zs.flatMap encI)) (hl : zs.length ≤ 9223372036854775807) : Ints w v zs := by
 have hn : zs.length = n := by simpa [flat_encI] using h.1
 subst hn
 exact Sl.of_own (enc := encI) (size := 1) (fun _ => rfl) h hl
theorem own_base_b {X : World} {base base' : Nat} (hb : base' ≤ base) {e : TypeId} {s n : Nat} {v : Value} {xs : List Value} (h : X.ownsRow base e s v n xs) : X.ownsRow base' e s v n xs := by
 refine ⟨h.1, ?_⟩
 rcases h.2 with hn | ⟨g, cap, cur, rfl, hbg, rest⟩
 ·exact .inl hn
 ·exact .inr ⟨g, cap, cur, rfl, by omega, rest⟩
theorem own_grow_t {X Y : World} {base : Nat} {e : TypeId} {s n : Nat} {v : Value} {xs : List Value} (h : X.ownsRow base e s v n xs) (he : Ext X Y) : Y.ownsRow base e s v n xs :=
 h.kept (row := none) ⟨he.os, he.tape, he.output, he.size, fun k hk _ => he.block k hk⟩ (by cases v.ownBlock <;> simp)
end Go.Proofs.YtofjcokclegkhaaGreatDoor.Rg

/- The reference's row of a ring is the ring's: plain laws. -/
namespace Go.Proofs.YtofjcokclegkhaaGreatDoor.Rg
open Go.ChangeShapes Go.WideShapes Go.ChangeAt Go.RowKit Go.Maps Go.Shelf
/-- how far a point is behind a key -/
def dK (key z : Int) : Int := (z - key) % 18446744073709551616
def ptK (id : Int) (k : Nat) : Int := mix (mix 0 (w64 id)) (k : Int)
theorem ptK_bd (id : Int) (k : Nat) : 0 ≤ ptK id k ∧ ptK id k ≤ 18446744073709551615 := mix_bd _ _
def farUp (key id : Int) : Nat → Int
 | 0 => 0
 | 1 => dK key (ptK id 0)
 | k + 2 => if dK key (ptK id (k + 1)) < farUp key id (k + 1) then dK key (ptK id (k + 1)) else farUp key id (k + 1)
theorem farUp_min (key id : Int) (n : Nat) (hn : 0 < n) : (∃ j, j < n ∧ farUp key id n = dK key (ptK id j)) ∧ ∀ j, j < n → farUp key id n ≤ dK key (ptK id j) := by
 induction n with
 | zero => omega
 | succ n ih =>
  cases n with
  | zero => exact ⟨⟨0, by omega, rfl⟩, fun j hj => by obtain rfl : j = 0 := by omega
                                                      exact Int.le_refl _⟩
  | succ n =>
   obtain ⟨⟨j, hj, h1⟩, h2⟩ := ih (by omega)
   unfold farUp
   by_cases h : dK key (ptK id (n + 1)) < farUp key id (n + 1)
   ·rw [if_pos h]
    refine ⟨⟨n + 1, by omega, rfl⟩, fun i hi => ?_⟩
    by_cases e : i = n + 1
    ·subst e; exact Int.le_refl _
    ·have := h2 i (by omega); omega
   ·rw [if_neg h]
    refine ⟨⟨j, by omega, h1⟩, fun i hi => ?_⟩
    by_cases e : i = n + 1
    ·subst e; omega
    ·exact h2 i (by omega)
/-- who comes first behind a key -/
def RK (f : Int → Int) (x y : Int) : Prop := f x < f y ∨ f x = f y ∧ x < y
theorem RK_ext (f : Int → Int) {l1 l2 : List Int} (h1 : l1.Pairwise (RK f)) (h2 : l2.Pairwise (RK f)) (h : ∀ x, x ∈ l1 ↔ x ∈ l2) : l1 = l2 := by
 have n1 : l1.Nodup := h1.imp (fun {a b} h => by unfold RK at h; intro e; subst e; omega)
 have n2 : l2.Nodup := h2.imp (fun {a b} h => by unfold RK at h; intro e; subst e; omega)
 exact List.Perm.eq_of_pairwise (le := RK f) (fun a b _ _ h h' => by unfold RK at h h'; omega) h1 h2 ((List.perm_ext_iff_of_nodup n1 n2).2 h)
/-- the order of points behind a key -/
def leD (key : Int) (x y : Int × Int) : Prop := dK key x.1 < dK key y.1 ∨ dK key x.1 = dK key y.1 ∧ x.2 ≤ y.2
theorem rotK_leD (key : Int) (hk : 0 ≤ key ∧ key ≤ 18446744073709551615) (P : List (Int × Int)) (hP : P.Pairwise (fun x y => leP x y = true)) (hb : ∀ x ∈ P, 0 ≤ x.1 ∧ x.1 ≤ 18446744073709551615) : (rotK key P).Pairwise (leD key) := by
 unfold rotK
 rw [List.pairwise_append]
 have hge : ∀ z : Int, key ≤ z → z ≤ 18446744073709551615 → dK key z = z - key := fun z h1 h2 => by
  unfold dK; rw [Int.emod_eq_of_lt (by omega) (by omega)]
 have hlt : ∀ z : Int, 0 ≤ z → z < key → dK key z = z - key + 18446744073709551616 := fun z h1 h2 => by
  unfold dK; omega
 refine ⟨?_, ?_, ?_⟩
 ·refine (List.Pairwise.and_mem.1 (hP.filter _)).imp ?_
  rintro x y ⟨hx, hy, h⟩
  rw [List.mem_filter] at hx hy
  have bx := hb x hx.1; have by' := hb y hy.1
  have cx : key ≤ x.1 := by have := hx.2; simp at this; omega
  have cy : key ≤ y.1 := by have := hy.2; simp at this; omega
  rw [leP_iff] at h
  unfold leD
  rw [hge _ cx bx.2, hge _ cy by'.2]
  omega
 ·refine (List.Pairwise.and_mem.1 (hP.filter _)).imp ?_
  rintro x y ⟨hx, hy, h⟩
  rw [List.mem_filter] at hx hy
  have bx := hb x hx.1; have by' := hb y hy.1
  have cx : x.1 < key := by have := hx.2; simpa using this
  have cy : y.1 < key := by have := hy.2; simpa using this
  rw [leP_iff] at h
  unfold leD
  rw [hlt _ bx.1 cx, hlt _ by'.1 cy]
  omega
 ·intro x hx y hy
  rw [List.mem_filter] at hx hy
  have bx := hb x hx.1; have by' := hb y hy.1
  have cx : key ≤ x.1 := by have := hx.2; simp at this; omega
  have cy : y.1 < key := by have := hy.2; simpa using this
  unfold leD
  rw [hge _ cx bx.2, hlt _ by'.1 cy]
  omega
theorem firsts_RK (key : Int) (f : Int → Int) (Q : List (Int × Int)) (hQ : Q.Pairwise (leD key)) (h1 : ∀ x ∈ Q, f x.2 ≤ dK key x.1) (h2 : ∀ x ∈ Q, ∃ y ∈ Q, y.2 = x.2 ∧ f x.2 = dK key y.1) : (firsts (Q.map Prod.snd)).Pairwise (RK f) := by
 have key' : ∀ (l r : List (Int × Int)), Q = l ++ r → (firsts (l.map Prod.snd)).Pairwise (RK f) := by
  intro l
  induction l using snoc_ind with
  | h0 => intro r _; simp [firsts]
  | hs l x ih =>
   intro r hr
   have ihl := ih (x :: r) (by rw [hr]; simp)
   rw [List.map_append]
   show (firsts (l.map Prod.snd ++ [x.2])).Pairwise (RK f)
   rw [firsts_snoc]
   unfold addF
   by_cases hm : x.2 ∈ firsts (l.map Prod.snd)
   ·rw [if_pos hm]; exact ihl
   ·rw [if_neg hm, List.pairwise_append]
    refine ⟨ihl, by simp, fun a ha b hb => ?_⟩
    rw [List.mem_singleton.1 hb]
    rw [firsts_mem] at ha hm
    obtain ⟨z, hz, rfl⟩ := List.mem_map.1 ha
    have hxQ : x ∈ Q := by rw [hr]; simp
    have hzQ : z ∈ Q := by rw [hr]; simp [hz]
    obtain ⟨y, hyQ, hy2, hfy⟩ := h2 x hxQ
    -- y stands at x or behind it
    have hyx : y = x ∨ leD key x y := by
     rw [hr, List.append_assoc] at hyQ hQ
     rw [List.pairwise_append] at hQ
     rcases List.mem_append.1 hyQ with h | h
     ·exact absurd (hy2 ▸ List.mem_map_of_mem (f := Prod.snd) h) hm
     ·simp only [List.singleton_append] at h hQ
      rcases List.mem_cons.1 h with h | h
      ·exact .inl h
      ·exact .inr ((List.pairwise_cons.1 hQ.2.1).1 y h)
    have hzx : leD key z x := by
     rw [hr, List.append_assoc, List.pairwise_append] at hQ
     exact hQ.2.2 z hz x (by simp)
    have hfz := h1 z hzQ
    have hfx := h1 x hxQ
    have hne : z.2 ≠ x.2 := fun e => hm (e ▸ ha)
    unfold leD at hyx hzx
    unfold RK
    rcases hyx with rfl | hyx <;> omega
 have := key' Q [] (by simp)
 exact this
def farI (key : Int) (p : Nat) (id : Int) : Int := farUp key id p
theorem rowOf_RK (key : Int) (hk : 0 ≤ key ∧ key ≤ 18446744073709551615) (p : Nat) (hp : 0 < p) (ids : List Int) : (rowOf key (pointsOf p ids)).Pairwise (RK (farI key p)) := by
 have hmem : ∀ x ∈ pointsOf p ids, ∃ k, k < p ∧ x.1 = ptK x.2 k ∧ x.2 ∈ ends ids := by
  intro x hx
  unfold pointsOf at hx
  rw [(srtP_perm _).mem_iff] at hx
  unfold raw at hx
  obtain ⟨e, he, hx⟩ := List.mem_flatMap.1 hx
  unfold ptsOf at hx
  obtain ⟨k, hk, rfl⟩ := List.mem_map.1 hx
  exact ⟨k, by simpa using hk, rfl, he⟩
 have hin : ∀ (e : Int) (k : Nat), e ∈ ends ids → k < p → (ptK e k, e) ∈ pointsOf p ids := by
  intro e k he hk
  unfold pointsOf
  rw [(srtP_perm _).mem_iff]
  unfold raw
  refine List.mem_flatMap.2 ⟨e, he, ?_⟩
  unfold ptsOf
  exact List.mem_map.2 ⟨k, by simpa using hk, rfl⟩
 unfold rowOf
 refine firsts_RK key (farI key p) _ (rotK_leD key hk _ (points_sorted p ids) ?_) ?_ ?_
 ·intro x hx
  obtain ⟨k, _, h, _⟩ := hmem x hx
  rw [h]; exact ptK_bd _ _
 ·intro x hx
  rw [rotK_mem] at hx
  obtain ⟨k, hk, h, _⟩ := hmem x hx
  rw [h]; exact (farUp_min key x.2 p hp).2 k hk
 ·intro x hx
  rw [rotK_mem] at hx
  obtain ⟨k, hk, h, he⟩ := hmem x hx
  obtain ⟨⟨j, hj, hf⟩, _⟩ := farUp_min key x.2 p hp
  exact ⟨(ptK x.2 j, x.2), by rw [rotK_mem]; exact hin x.2 j he hj, rfl, hf⟩
/-- a row of the same endpoints, each behind those that are nearer, is the ring's -/
theorem rowOf_unique (key : Int) (hk : 0 ≤ key ∧ key ≤ 18446744073709551615) (p : Nat) (hp : 0 < p) (ids T : List Int) (h1 : T.Pairwise (RK (farI key p))) (h2 : ∀ x, x ∈ T ↔ x ∈ ids) : T = rowOf key (pointsOf p ids) :=
 RK_ext _ h1 (rowOf_RK key hk p hp ids) (fun x => by rw [h2, rowOf_mem key p hp])
/-- put in ahead of the first that does not come first -/
theorem ins_RK (f : Int → Int) (T : List Int) (x : Int) (q : Nat) (hT : T.Pairwise (RK f)) (hx : x ∉ T) (h1 : ∀ y ∈ T.take q, RK f y x) (h2 : ∀ h : q < T.length, ¬ RK f T[q] x) : (T.take q ++ [x] ++ T.drop q).Pairwise (RK f) := by
 have hxd : ∀ y ∈ T.drop q, RK f x y := by
  intro y hy
  have hq : q < T.length := by
   by_cases h : q < T.length
   ·exact h
   ·rw [List.drop_eq_nil_of_le (by omega)] at hy; simp at hy
  have hnq := h2 hq
  have hne : T[q] ≠ x := fun e => hx (e ▸ List.getElem_mem hq)
  have hxq : RK f x T[q] := by unfold RK at *; omega
  have hd : T.drop q = T[q] :: T.drop (q + 1) := List.drop_eq_getElem_cons hq
  have hp : (T.drop q).Pairwise (RK f) := hT.sublist (List.drop_sublist q T)
  rw [hd] at hy hp
  rcases List.mem_cons.1 hy with rfl | hy
  ·exact hxq
  ·have := (List.pairwise_cons.1 hp).1 y hy
   unfold RK at *; omega
 rw [List.append_assoc, List.pairwise_append]
 refine ⟨hT.sublist (List.take_sublist q T), ?_, ?_⟩
 ·exact List.pairwise_cons.2 ⟨hxd, hT.sublist (List.drop_sublist q T)⟩
 ·intro a ha b hb
  rcases List.mem_cons.1 hb with rfl | hb
  ·exact h1 a ha
  ·have hp := hT
   rw [← List.take_append_drop q T, List.pairwise_append] at hp
   exact hp.2.2 a ha b hb
theorem ins_mem (T : List Int) (x : Int) (q : Nat) (y : Int) : y ∈ T.take q ++ [x] ++ T.drop q ↔ y ∈ T ∨ y = x := by
 have h : y ∈ T ↔ y ∈ T.take q ∨ y ∈ T.drop q := by rw [← List.mem_append, List.take_append_drop]
 simp only [List.mem_append, List.mem_singleton]
 rw [h]
 constructor
 ·rintro ((h | h) | h)
  ·exact .inl (.inl h)
  ·exact .inr h
  ·exact .inl (.inr h)
 ·rintro ((h | h) | h)
  ·exact .inl (.inl h)
  ·exact .inr h
  ·exact .inl (.inr h)
end Go.Proofs.YtofjcokclegkhaaGreatDoor.Rg

/- The reference's Point, Far and Row of a ring. -/
namespace Go.Proofs.YtofjcokclegkhaaGreatDoor.Rg
open Go.ChangeShapes Go.WideShapes Go.ChangeAt Go.RowKit Go.Maps Go.Shelf
theorem Tryz.infoO : (Tryz.prog.info? 109).map (fun i => (i.zero, i.size, i.bytes)) = some (some (.agg #[.int .i64 0, .int .u64 0]), 2, 16) := by kernel_rfl
theorem wrap_u64_small (k : Nat) (h : k ≤ 1000) : IntKind.u64.wrap (k : Int) = (k : Int) := by
 have e : IntKind.u64.wrap (k : Int) = (k : Int) % 18446744073709551616 := by simp [IntKind.wrap, IntKind.signed, IntKind.bits]
 rw [e]; omega
theorem wrap_dK (key z : Int) : IntKind.u64.wrap (z - key) = dK key z := by
 unfold dK; simp [IntKind.wrap, IntKind.signed, IntKind.bits]
theorem dK_bd (key z : Int) : 0 ≤ dK key z ∧ dK key z ≤ 18446744073709551615 := by unfold dK; omega
theorem pointZ_any (id k : Int) (w : World) : Calls Tryz.prog 73 #[.int .i64 id, .int .i64 k] w fun e w' => e = .returned (.int .u64 (mix (mix 0 (IntKind.u64.wrap id)) (IntKind.u64.wrap k))) ∧ w = w' := by
 have h1 : ∀ u : World, Calls Tryz.prog 99 #[.int .u64 0, .int .u64 (IntKind.u64.wrap id)] u fun e w' => e = .returned (.int .u64 (mix 0 (IntKind.u64.wrap id))) ∧ u = w' := fun u => rmix_any 0 _ u (by unfold U64; omega) (wrap_u64_bd _)
 have h2 : ∀ u : World, Calls Tryz.prog 99 #[.int .u64 (mix 0 (IntKind.u64.wrap id)), .int .u64 (IntKind.u64.wrap k)] u fun e w' => e = .returned (.int .u64 (mix (mix 0 (IntKind.u64.wrap id)) (IntKind.u64.wrap k))) ∧ u = w' := fun u => rmix_any _ _ u (mix_bd _ _) (wrap_u64_bd _)
 have H1 := hide h1
 have H2 := hide h2
 clear h1 h2
 go_enter Tryz.func73, Tryz.ntmps73
 go_wp2_with fail
 refine (H1.out _).mono ?_
 rintro e w' ⟨rfl, rfl⟩
 go_wp2_with fail
 refine (H2.out _).mono ?_
 rintro e w' ⟨rfl, rfl⟩
 go_wp2_with fail
 go_ret
 exact ⟨rfl, rfl⟩
theorem pointK_any (id : Int) (k : Nat) (w : World) (hk : k ≤ 1000) : Calls Tryz.prog 73 #[.int .i64 id, .int .i64 k] w fun e w' => e = .returned (.int .u64 (ptK id k)) ∧ w = w' := by
 have h3 : mix (mix 0 (IntKind.u64.wrap id)) (IntKind.u64.wrap (k : Int)) = ptK id k := by rw [wrap_u64_small k hk]; rfl
 rw [← h3]
 exact pointZ_any id k w
set_option maxRecDepth 100000 in
set_option maxHeartbeats 1000000 in
theorem far_any (id key : Int) (p : Nat) (w : World) (hp : 1 ≤ p ∧ p ≤ 1000) : Calls Tryz.prog 39 #[.int .i64 id, .int .i64 p, .int .u64 key] w fun e w' => e = .returned (.int .u64 (farI key p id)) ∧ w = w' := by
 have hpt : ∀ (k : Nat) (u : World), k ≤ 1000 → Calls Tryz.prog 73 #[.int .i64 id, .int .i64 k] u fun e w' => e = .returned (.int .u64 (ptK id k)) ∧ u = w' := fun k u hk => pointK_any id k u hk
 have HPT := hide hpt
 have hp2 : (p : Int) ≤ 1000 := by omega
 have hd0 := wrap_dK key (ptK id 0)
 obtain ⟨z0, hz0⟩ : ∃ z, ptK id 0 = z := ⟨_, rfl⟩
 obtain ⟨d0, he0⟩ : ∃ d, dK key z0 = d := ⟨_, rfl⟩
 rw [hz0, he0] at hd0
 have hb0 := dK_bd key z0
 rw [he0] at hb0
 have hf1 : farUp key id 1 = d0 := by rw [← he0, ← hz0]; rfl
 have HF1 := hide hf1
 have HZ0 := hide hz0
 have HD0 := hide hd0
 clear hpt hz0 he0 hf1 hd0
 go_enter Tryz.func39, Tryz.ntmps39
 go_wp2_with fail
 refine (HPT.out 0 _ (by omega)).mono ?_
 rintro e w' ⟨rfl, rfl⟩
 rw [HZ0.out]
 have hd0 := HD0.out
 go_wp2_with fail
 clear hd0
 go_loop [7, 8] (fun b i => ∃ k : Nat, 1 ≤ k ∧ k ≤ p ∧ i = .int .i64 k ∧ b = .int .u64 (farUp key id k)) (fun _ i => p - (intOf i).toNat)
 case atStart => exact ⟨1, by omega, by omega, rfl, by rw [HF1.out]⟩
 case round =>
  obtain ⟨k, hk1, hk, rfl, rfl⟩ := hrel
  by_cases hlt : k < p
  ·have hd := wrap_dK key (ptK id k)
   have hb := dK_bd key (ptK id k)
   have hsn : farUp key id (k+1) = if dK key (ptK id k) < farUp key id k then dK key (ptK id k) else farUp key id k := by
    obtain ⟨j, rfl⟩ : ∃ j, k = j + 1 := ⟨k - 1, by omega⟩
    rfl
   obtain ⟨z, hz⟩ : ∃ z, ptK id k = z := ⟨_, rfl⟩
   rw [hz] at hd hb hsn
   obtain ⟨d, he⟩ : ∃ d, dK key z = d := ⟨_, rfl⟩
   rw [he] at hd hb hsn
   obtain ⟨F, hF⟩ : ∃ F, farUp key id k = F := ⟨_, rfl⟩
   rw [hF] at hsn ⊢
   have HZ := hide hz
   have HD := hide hd
   have HSN := hide hsn
   clear hz hd he hsn hF
   go_wp2_with fail
   refine (HPT.out k _ (by omega)).mono ?_
   rintro e w' ⟨rfl, rfl⟩
   rw [HZ.out]
   by_cases hdf : d < F
   ·have hs := HSN.out
    rw [if_pos hdf] at hs
    have HS := hide hs
    have hd := HD.out
    clear hs
    go_wp2
    go_round
    case rel => exact ⟨k + 1, by omega, hlt, by go_num, by rw [HS.out]⟩
    case measure => simp [intOf]; omega
   ·have hs := HSN.out
    rw [if_neg hdf] at hs
    have HS := hide hs
    have hd := HD.out
    clear hs
    go_wp2
    go_round
    case rel => exact ⟨k + 1, by omega, hlt, by go_num, by rw [HS.out]⟩
    case measure => simp [intOf]; omega
  ·obtain rfl : k = p := by omega
   go_wp2
   go_ret
   exact ⟨rfl, rfl⟩
end Go.Proofs.YtofjcokclegkhaaGreatDoor.Rg

/- The reference's Row of a ring. -/
namespace Go.Proofs.YtofjcokclegkhaaGreatDoor.Rg
open Go.ChangeShapes Go.WideShapes Go.ChangeAt Go.RowKit Go.Maps Go.Shelf
def encO (p : Int × Int) : List Value := [.int .i64 p.1, .int .u64 p.2]
theorem encO_len (x : Int × Int) : (encO x).length = 2 := rfl
theorem encO_one (L : List (Int × Int)) : ∀ u ∈ L.flatMap encO, u.oneCell' = true := by
 intro u hu
 obtain ⟨x, _, hx⟩ := List.mem_flatMap.1 hu
 simp [encO] at hx
 rcases hx with rfl | rfl <;> rfl
/-- a slice whose cells read so: nil, or with cells -/
def SrcG {α : Type} (enc : α → List Value) (size : Nat) (w : World) (xv : Value) (I : List α) : Prop := (xv = .slice none 0 0 ∧ I = []) ∨ ∃ ad c, xv = .slice (some ad) I.length c ∧ Sl enc size w (.slice (some ad) I.length c) I
theorem SrcG.ext {α : Type} {enc : α → List Value} {size : Nat} {w w' : World} {xv : Value} {I : List α} (h : SrcG enc size w xv I) (e : Ext w w') : SrcG enc size w' xv I := by
 rcases h with h | ⟨ad, c, h1, h2⟩
 ·exact .inl h
 ·exact .inr ⟨ad, c, h1, h2.ext e⟩
theorem wpList_append_srcG {α : Type} {enc : α → List Value} {P : Program} {w : World} {ops : Array Oper} {rest : List Oper} {o : Oper} {a : Act} {Q : Exit → Act → World → Prop} (hgd : o.guard = none) (s x : Operand) (t : TypeId)
  (ho : o.op = .call { callee := .builtin .append, args := #[s, x], argTypes := #[t, t] })
  (base : Nat) (e : TypeId) (i : TypeInfo) (z : Value) (size bytes : Nat) (ht : P.underlying t = some (.slice e)) (hi : P.info? e = some i) (hz : i.zero = some z)
  (hsize : i.size = size) (hby : i.bytes = bytes) (hzs : z.cells.size = size) (hsz : 0 < size) (henc : ∀ x, (enc x).length = size) (hone : ∀ L : List α, ∀ u ∈ L.flatMap enc, u.oneCell' = true)
  (v : Value) (n : Nat) (xs : List Value) (hs : a.eval s = v) (hown : w.ownsRow base e size v n xs)
  (xv : Value) (I : List α) (hx : a.eval x = xv) (hsrc : SrcG enc size w xv I)
  (h63 : n + I.length ≤ maxLen) (hbytes : (n + I.length) * bytes ≤ 140737488355328) (hbase : base ≤ w.heap.size)
  (h : ∀ v' w', w'.ownsRow base e size v' (n + I.length) (xs ++ I.flatMap enc) → w.grownBy w' v.ownBlock → wpList P ops Q rest (a.put o.dst v') w') : wpList P ops Q (o :: rest) a w := by
 rcases hsrc with ⟨rfl, rfl⟩ | ⟨ad, c, rfl, hI⟩
 ·refine wpList_plain hgd fun K hK => ?_
  have hr := run_append_owned_none (P := P) (w := w) base t o.type e i size ht hi v n xs hown
  unfold Oper.wp execOp
  simp only [ho, resolve, invoke, builtin, Sem.run_bind, Sem.run_pure, Result.andThen_ok, List.map_toArray, List.map_cons, List.map_nil, hs, hx, hr]
  exact hK _ _ (h v w (by simpa using hown) ⟨rfl, rfl, rfl, Nat.le_refl _, fun _ _ _ => rfl⟩)
 ·exact wpList_append_own w hgd s x t ho base e i z size bytes ht hi hz hsize hby hzs hsz v n xs hs hown ad I.length c (I.flatMap enc) hx (length_flatMap_enc henc I) (hI.news henc hsz)
   (hone I) h63 hbytes hbase (fun v' w' h1 h2 _ => h v' w' h1 h2)
theorem Sl.of_ownN {α : Type} {enc : α → List Value} {size : Nat} (hs : ∀ x, (enc x).length = size) (h0 : 0 < size) {w : World} {base : Nat} {e : TypeId} {v : Value} {n : Nat} {xs : List α}
  (h : w.ownsRow base e size v n (xs.flatMap enc)) (hl : xs.length ≤ 9223372036854775807) : Sl enc size w v xs := by
 have hn : xs.length = n := by
  have := h.1
  rw [length_flatMap_enc hs] at this
  exact Nat.eq_of_mul_eq_mul_right h0 this
 subst hn
 exact Sl.of_own (enc := enc) (size := size) hs h hl
theorem os_at {w : World} {a : Option Addr} {n cap : Nat} {xs : List (Int × Int)} (h : Sl encO 2 w (.slice a n cap) xs) (i : Nat) (hi : i < xs.length) :
  ∃ b off, a = some ⟨b, off, none⟩ ∧ b < w.heap.size ∧ w.cell? ⟨b, off + i * 2, none⟩ = some (.int .i64 xs[i].1) ∧ w.cell? ⟨b, off + i * 2 + 1, none⟩ = some (.int .u64 xs[i].2) := by
 obtain ⟨_, a', cap', hv, _, hc⟩ := h
 cases hv
 obtain ⟨b, off, ha, hb, hc⟩ := hc i xs[i] (List.getElem?_eq_getElem hi)
 exact ⟨b, off, ha, hb, by simpa using hc 0 _ rfl, by simpa using hc 1 _ rfl⟩
theorem Sl.capb {α : Type} {enc : α → List Value} {size : Nat} {w : World} {a : Option Addr} {n cap : Nat} {xs : List α} (h : Sl enc size w (.slice a n cap) xs) : (n : Int) ≤ cap ∧ (cap : Int) ≤ 9223372036854775807 := by
 obtain ⟨h1, a', c', e, hc, _⟩ := h
 cases e
 omega
theorem own_base_x {X : World} {base base' : Nat} (hb : base' ≤ base) {e : TypeId} {s n : Nat} {v : Value} {xs : List Value} (h : X.ownsRow base e s v n xs) : X.ownsRow base' e s v n xs := own_base_b hb h
/-- each with how far it is -/
def wF (f : Int → Int) (T : List Int) : List (Int × Int) := T.map fun x => (x, f x)
theorem wF_len (f : Int → Int) (T : List Int) : (wF f T).length = T.length := by simp [wF]
theorem wF_get (f : Int → Int) (T : List Int) (i : Nat) (hi : i < (wF f T).length) : (wF f T)[i] = (T[i]'(by rw [← wF_len f T]; exact hi), f (T[i]'(by rw [← wF_len f T]; exact hi))) := by simp [wF]
theorem wF_ins (f : Int → Int) (T : List Int) (x : Int) (q : Nat) : wF f (T.take q ++ [x] ++ T.drop q) = (wF f T).take q ++ [(x, f x)] ++ (wF f T).drop q := by simp [wF, List.map_take, List.map_drop]
theorem farI_bd (key : Int) (p : Nat) (hp : 0 < p) (x : Int) : 0 ≤ farI key p x ∧ farI key p x ≤ 18446744073709551615 := by
 obtain ⟨⟨j, _, h⟩, _⟩ := farUp_min key x p hp
 unfold farI; rw [h]; exact dK_bd _ _
set_option maxRecDepth 100000 in
set_option maxHeartbeats 8000000 in
theorem rrow_any (ids : List Int) (v : Value) (p : Nat) (key : Int) (w : World) (hs : Ints w v ids) (hi64 : ∀ x ∈ ids, I64 x) (hl : ids.length ≤ 1000) (hp : 1 ≤ p ∧ p ≤ 1000) (hk : 0 ≤ key ∧ key ≤ 18446744073709551615) :
  Calls Tryz.prog 20 #[v, .int .i64 p, .int .u64 key] w fun e w' => ∃ v', e = .returned v' ∧ Ints w' v' (rowOf key (pointsOf p ids)) ∧ Ext w w' := by
 obtain ⟨_, a, cap, rfl⟩ := hs.shape
 obtain ⟨io, ho, hoz0, hoz1, hoz2⟩ := info_parts' Tryz.infoO
 obtain ⟨i0, hi, hz0, hz1, hz2⟩ := info_parts' Tryz.infoI
 have HS := hide hs
 have HCP := hide hs.capb
 have HI := hide hi64
 have hlz : (ids.length : Int) ≤ 1000 := by omega
 have hfar : ∀ (x : Int) (u : World), Calls Tryz.prog 39 #[.int .i64 x, .int .i64 p, .int .u64 key] u fun e w' => e = .returned (.int .u64 (farI key p x)) ∧ u = w' := fun x u => far_any x key p u hp
 have hfb : ∀ x : Int, 0 ≤ farI key p x ∧ farI key p x ≤ 18446744073709551615 := fun x => farI_bd key p hp.1 x
 have huq : ∀ T : List Int, T.Pairwise (RK (farI key p)) → (∀ x, x ∈ T ↔ x ∈ ids) → T = rowOf key (pointsOf p ids) := fun T h1 h2 => rowOf_unique key hk p hp.1 ids T h1 h2
 obtain ⟨f, hf⟩ : ∃ f, farI key p = f := ⟨_, rfl⟩
 rw [hf] at huq
 simp only [hf] at hfar hfb
 have HFAR := hide hfar
 have HFB := hide hfb
 have HUQ := hide huq
 clear hs hi64 hfar hfb huq hf hk
 go_enter Tryz.func20, Tryz.ntmps20
 go_wp2_with fail
 go_loopw [7, 8] (fun v i wr => ∃ (k : Nat) (T : List Int), k ≤ ids.length ∧ i = .int .i64 k ∧ T.length ≤ k ∧ T.Pairwise (RK f) ∧ (∀ x, x ∈ T ↔ x ∈ ids.take k) ∧ wr.ownsRow w.heap.size 109 2 v T.length ((wF f T).flatMap encO) ∧ Ext w wr) (fun _ i _ => ids.length - (intOf i).toNat)
 case atStart => exact ⟨0, [], by omega, rfl, by simp, by simp, by simp, by simpa [wF] using World.ownsRow_nil _ _ _ _, Below.refl _ _⟩
 case round =>
  obtain ⟨k, T, hk, rfl, hTk, hT, hTm, hown, hext⟩ := hrel
  have hshp : (u7 = .slice none 0 0 ∧ T = []) ∨ ∃ g c, u7 = .slice (some ⟨g, 0, none⟩) T.length c ∧ T.length ≤ c ∧ (c : Int) ≤ 9223372036854775807 := by
   rcases hown.2 with ⟨rfl, h0⟩ | ⟨g, c, cur, rfl, _, _, hc, hcm, _⟩
   ·exact .inl ⟨rfl, List.eq_nil_of_length_eq_zero h0⟩
   ·exact .inr ⟨g, c, rfl, hc, by unfold maxLen at hcm; omega⟩
  by_cases hlt : k < ids.length
  ·obtain ⟨b, off, rfl, hbb, hc⟩ := ints_at (HS.out.ext hext) k hlt
   have hpre := (HS.out.ext hext).take k (by omega)
   have htl : (ids.take k).length = k := by rw [List.length_take]; omega
   have hmx := HI.out _ (List.getElem_mem hlt)
   have hts := take_snoc ids k hlt
   have hsz := hext.size
   obtain ⟨x, hx⟩ : ∃ x, ids[k] = x := ⟨_, rfl⟩
   rw [hx] at hc hts
   have HTS := hide hts
   have HT := hide hT
   have HTM := hide hTm
   have HO := hide hown
   have HE := hide hext
   have hhas : ∀ u : World, Ext wr u → Calls Tryz.prog 38 #[.slice (some ⟨b, off, none⟩) k cap, .int .i64 x] u fun e w' => e = .returned (.bool ((ids.take k).contains x)) ∧ w' = u := fun u hu => by
    have h1 := hpre.ext hu
    have := has_any (ids.take k) x (.slice (some ⟨b, off, none⟩) k cap) u h1
    exact this.mono (fun _ _ h => ⟨h.1, h.2.symm⟩)
   have hkz : (k : Int) ≤ ids.length := by omega
   have hcp1 := HCP.out.1
   have hcp2 := HCP.out.2
   have hk0 : (0 : Int) ≤ k := by omega
   have hkcap : (k : Int) ≤ cap := by omega
   obtain ⟨t, ht⟩ : ∃ t, (ids.take k).contains x = t := ⟨_, rfl⟩
   rw [ht] at hhas
   have HHAS := hide hhas
   have HTT := hide ht
   clear hpre hx hts hT hTm hown hhas ht hmx hext
   go_wp2_with fail
   go_quiet ((go_at_call 38; refine Calls.quiet_of_same (HHAS.out _ (Below.drewN' (Below.refl _ _) _))))
   rename_i nq
   have hwe : Ext w (wr.drewN nq) := Below.drewN' HE.out _
   have hwo : (wr.drewN nq).ownsRow w.heap.size 109 2 u7 T.length ((wF f T).flatMap encO) := HO.out
   have hwc : (wr.drewN nq).cell? ⟨b, off + k, none⟩ = some (.int .i64 x) := hc
   have hwb : b < (wr.drewN nq).heap.size := hbb
   obtain ⟨wq, hwq⟩ : ∃ wq, wr.drewN nq = wq := ⟨_, rfl⟩
   rw [hwq] at hwe hwo hwc hwb ⊢
   have HO := hide hwo
   have HE := hide hwe
   clear hc hwq hwo hwe
   have hsz := HE.out.size
   cases t with
   | true =>
    have hin : x ∈ ids.take k := by have := HTT.out; simpa using this
    have hmem : ∀ y, y ∈ T ↔ y ∈ ids.take (k + 1) := fun y => by
     rw [HTS.out, List.mem_append, HTM.out y]
     constructor
     ·exact .inl
     ·rintro (h | h)
      ·exact h
      ·rw [List.mem_singleton.1 h]; exact hin
    have HMM := hide hmem
    clear hin hmem
    go_wp2
    go_roundw
    case rel => exact ⟨k + 1, T, hlt, by go_num, by omega, HT.out, HMM.out, HO.out, HE.out⟩
    case measure => simp [intOf]; omega
   | false =>
    go_wp2_with fail
    have hcz : ∀ X : World, Ext wq X → X.cell? ⟨b, off + k, none⟩ = some (.int .i64 x) := fun X hX => (hX.cell (p := ⟨b, off + k, none⟩) hwb).trans hwc
    have HCZ := hide hcz
    clear hcz
    have hfx := HFAR.out x
    have HFX := hide hfx
    clear hfx
    go_region_held3 (fun w' => w'.cell? ⟨b, off + k, none⟩ = some (.int .i64 x))
     (first
      | exact HCZ.out _ (Below.refl _ _)
      | exact HCZ.out _ (Below.drewN' (Below.refl _ _) _)
      | exact HCZ.out _ ((Below.drewN' (Below.refl _ _) _).alloc (Nat.le_refl _) _)
      | exact HCZ.out _ (((Below.drewN' (Below.refl _ _) _).alloc (Nat.le_refl _) _).setCell (Nat.le_refl _) _)
      | exact HCZ.out _ ((((Below.drewN' (Below.refl _ _) _).alloc (Nat.le_refl _) _).setCell (Nat.le_refl _) _).setCell (Nat.le_refl _) _))
     (first | (go_at_call 39; refine (HFX.out _).mono ?_; rintro e w8 ⟨rfl, rfl⟩))
    all_goals
     have cX : (wq.alloc (.cells #[.int .i64 x, .int .u64 (f x)] 109)).drew.cell? ⟨wq.heap.size, 0, none⟩ = some (.int .i64 x) := by go_simp
     have cF : (wq.alloc (.cells #[.int .i64 x, .int .u64 (f x)] 109)).drew.cell? ⟨wq.heap.size, 1, none⟩ = some (.int .u64 (f x)) := by go_simp
     have e1 : Ext wq (wq.alloc (.cells #[.int .i64 x, .int .u64 (f x)] 109)).drew := ((Below.refl _ wq).alloc (Nat.le_refl _) _).drew
     have hs1 : wq.heap.size < (wq.alloc (.cells #[.int .i64 x, .int .u64 (f x)] 109)).drew.heap.size := by simp
     have ho1 := own_grow_t HO.out e1
     obtain ⟨w1, hw1⟩ : ∃ w1, (wq.alloc (.cells #[.int .i64 x, .int .u64 (f x)] 109)).drew = w1 := ⟨_, rfl⟩
     obtain ⟨B, hB⟩ : ∃ B, wq.heap.size = B := ⟨_, rfl⟩
     rw [hw1] at cX cF e1 hs1 ho1 ⊢
     rw [hB] at cX cF hs1 ⊢
     have hfb := HFB.out x
     obtain ⟨fx, hfx⟩ : ∃ z, f x = z := ⟨_, rfl⟩
     rw [hfx] at cF hfb ⊢
     have HFXE := hide hfx
     have HE1 := hide (HE.out.trans e1)
     have HO1 := hide ho1
     have HCELL := hide (show ∀ X, Ext w1 X → X.cell? ⟨B, 0, none⟩ = some (.int .i64 x) ∧ X.cell? ⟨B, 1, none⟩ = some (.int .u64 fx) from fun X hX => ⟨(hX.cell (p := ⟨B, 0, none⟩) hs1).trans cX, (hX.cell (p := ⟨B, 1, none⟩) hs1).trans cF⟩)
     clear hw1 hB cX cF e1 ho1 hwc HCZ HFX hfx
     rcases hshp with ⟨rfl, rfl⟩ | ⟨g, c, rfl, hgc, hcm⟩
     ·have hxn := HTT.out
      have hM' : ∀ y, y ∈ [x] ↔ y ∈ ids.take (k + 1) := fun y => by
       have h := HTM.out y
       rw [HTS.out, List.mem_append, ← h]
       simp
      have HM2 := hide hM'
      have hwsz : w.heap.size ≤ w1.heap.size := HE1.out.size
      have hW' : (wF f [x]).flatMap encO = [.int .i64 x, .int .u64 fx] := by simp [wF, encO, HFXE.out]
      have HW2 := hide hW'
      clear hxn hM' hW'
      go_wp2_with fail
      go_loopw [10] (fun i wr => i = .int .i64 0 ∧ Ext w1 wr) (fun i _ => 0)
      case atStart => exact ⟨rfl, Below.refl _ _⟩
      case round =>
       obtain ⟨rfl, hxq⟩ := hrel
       have HXQ := hide hxq
       obtain ⟨cX, cF⟩ := HCELL.out _ hxq
       have hsz1 := hxq.size
       clear hxq
       go_wp2_with fail
       go_quiet (fail)
       all_goals
        go_wp2_with (first
         | (at_builtin; refine wpList_append_own _ (by rfl) _ _ 106 (by rfl) w1.heap.size 109 io (.agg #[.int .i64 0, .int .u64 0]) 2 16 Tryz.underlying106 ho hoz0 hoz1 hoz2 rfl (by decide) (.slice none 0 0) 0 [] (by rfl) (World.ownsRow_nil _ _ _ _) ⟨wr.heap.size, 0, none⟩ 1 1 [.int .i64 x, .int .u64 fx] (by rfl) (by rfl) (World.news_of_block (cs := #[.int .i64 x, .int .u64 fx]) (t := 109) (fr := (0, 0)) (heap_alloc_new (wr.drewN _) _)) (by simp [Value.oneCell']) (by unfold maxLen; omega) (by omega) (by simp; omega) ?_; intro v3 w3 hown3 hgrow3 _; have e3 : Ext w1 w3 := Below.grown (Below.alloc (Below.drewN' HXQ.out _) HXQ.out.size _) hgrow3 (by simp; omega) (fun r hr => by simp [Value.ownBlock] at hr); have hz3 := e3.size)
         | (at_builtin; refine wpList_append_srcG (by rfl) _ _ 106 (by rfl) w1.heap.size 109 io (.agg #[.int .i64 0, .int .u64 0]) 2 16 Tryz.underlying106 ho hoz0 hoz1 hoz2 rfl (by decide) encO_len encO_one v3 _ _ (by rfl) hown3 (.slice none 0 0) [] (by rfl) (.inl ⟨rfl, rfl⟩) (by unfold maxLen; simp) (by simp) hz3 ?_; intro v4 w4 hown4 hgrow4; have e4 : Ext w1 w4 := Below.grown e3 hgrow4 hz3 (fun r hr => (hown3.lt r hr).1)))
        have hown5 : w4.ownsRow w.heap.size 109 2 v4 [x].length ((wF f [x]).flatMap encO) := by
         refine own_base_x hwsz ?_
         rw [HW2.out]
         simpa using hown4
        go_roundw
        case rel => exact ⟨k + 1, [x], hlt, by go_num, by simp, by simp, HM2.out, hown5, HE1.out.trans e4⟩
        case measure => simp [intOf]; omega
     ·go_wp2_with fail
      go_loopw [10] (fun i wr => ∃ q : Nat, q ≤ T.length ∧ i = .int .i64 q ∧ (∀ y ∈ T.take q, RK f y x) ∧ Ext w1 wr) (fun i _ => (T.length - intOf i).toNat)
      case atStart => exact ⟨0, by omega, rfl, by simp, Below.refl _ _⟩
      case round =>
       obtain ⟨q, hq, rfl, hRq, hxq⟩ := hrel
       obtain ⟨cX, cF⟩ := HCELL.out _ hxq
       have hsl : Sl encO 2 wr (.slice (some ⟨g, 0, none⟩) T.length c) (wF f T) := by
        have := (Sl.of_ownN encO_len (by decide) HO1.out (by rw [wF_len]; omega)).ext hxq
        exact this
       have hTl : T.length ≤ 1000 := by omega
       by_cases hgo : ∃ h : q < T.length, RK f T[q] x
       ·obtain ⟨hlq, hr⟩ := hgo
        obtain ⟨b1, o1, eb1, hb1, hca, hcb⟩ := os_at hsl q (by rw [wF_len]; exact hlq)
        cases eb1
        rw [wF_get, Nat.zero_add] at hca hcb
        have hts' := take_snoc T q hlq
        obtain ⟨y, hy⟩ : ∃ y, T[q] = y := ⟨_, rfl⟩
        rw [hy] at hca hcb hr hts'
        have hRq' : ∀ z ∈ T.take (q + 1), RK f z x := fun z hz => by
         rw [hts'] at hz
         rcases List.mem_append.1 hz with h | h
         ·exact hRq z h
         ·rw [List.mem_singleton.1 h]; exact hr
        have HRQ := hide hRq'
        unfold RK at hr
        rw [HFXE.out] at hr
        have hfy := HFB.out y
        obtain ⟨fy, hfy'⟩ : ∃ z, f y = z := ⟨_, rfl⟩
        simp only [hfy'] at hca hcb hr hfy
        have hqz : (q : Int) < T.length := by omega
        have hq0 : (0 : Int) ≤ q := by omega
        clear hRq hRq' hts' hsl hy hfy'
        rcases hr with hr | ⟨hr1, hr2⟩
        ·go_wp2_with fail
         go_quiet (fail)
         all_goals
          go_wp2
          go_roundw
          case rel => exact ⟨q + 1, by omega, by go_num, HRQ.out, Below.drewN' hxq _⟩
          case measure => simp [intOf]; omega
        ·have hg1 : decide (fy < fx) = false := by simp; omega
         have hg2 : (fy == fx) = true := by simp [hr1]
         clear hr1
         go_wp2_with fail
         go_quiet (fail)
         all_goals
          go_wp2
          go_roundw
          case rel => exact ⟨q + 1, by omega, by go_num, HRQ.out, Below.drewN' hxq _⟩
          case measure => simp [intOf]; omega
       ·have hex : ∀ h : q < T.length, ¬ RK f T[q] x := fun h hr => hgo ⟨h, hr⟩
        have hqz : (q : Int) ≤ T.length := by omega
        have hq0 : (0 : Int) ≤ q := by omega
        have hTc : (T.length : Int) ≤ c := by omega
        have hqc : (q : Int) ≤ c := by omega
        have HEX := hide hex
        have HRQ := hide hRq
        have HSL := hide hsl
        have HXQ := hide hxq
        have hcase : (q = T.length) ∨ ∃ (h : q < T.length), (¬ f T[q] < f x ∧ f T[q] ≠ f x) ∨ (¬ f T[q] < f x ∧ f T[q] = f x ∧ ¬ T[q] < x) := by
         by_cases h : q < T.length
         ·refine .inr ⟨h, ?_⟩
          have hn := hex h
          unfold RK at hn
          by_cases h2 : f T[q] = f x
          ·exact .inr ⟨by omega, h2, by omega⟩
          ·exact .inl ⟨by omega, h2⟩
         ·exact .inl (by omega)
        clear hgo hex hRq hxq
        have hxn : x ∉ T := fun h => by
         have h1 := (HTM.out x).1 h
         have h2 := HTT.out
         simp only [List.contains_eq_mem, decide_eq_false_iff_not] at h2
         exact h2 h1
        have hT' := ins_RK f T x q HT.out hxn HRQ.out HEX.out
        have hM' : ∀ y, y ∈ T.take q ++ [x] ++ T.drop q ↔ y ∈ ids.take (k + 1) := fun y => by
         rw [ins_mem, HTM.out y, HTS.out, List.mem_append, List.mem_singleton]
        have hL' : (T.take q ++ [x] ++ T.drop q).length = T.length + 1 := by simp; omega
        have hW' := wF_ins f T x q
        have hW1 : ((wF f T).take q).length = q := by rw [List.length_take, wF_len]; omega
        have hW3 : ((wF f T).drop q).length = T.length - q := by rw [List.length_drop, wF_len]
        have hsrc1 : SrcG encO 2 wr (.slice (some ⟨g, 0, none⟩) q c) ((wF f T).take q) := by
         refine .inr ⟨⟨g, 0, none⟩, c, by rw [hW1], ?_⟩
         rw [hW1]
         exact Sl.take HSL.out q hq
        have hsrc3 : SrcG encO 2 wr (.slice (if c = q then some ⟨g, 0, none⟩ else some ⟨g, q * 2, none⟩) (T.length - q) (c - q)) ((wF f T).drop q) := by
         by_cases hck : c = q
         ·have hn : (wF f T).drop q = [] := List.eq_nil_of_length_eq_zero (by rw [hW3]; omega)
          rw [if_pos hck, hn]
          have e0 : T.length - q = 0 := by omega
          rw [e0]
          exact .inr ⟨_, _, rfl, by simp, some ⟨g, 0, none⟩, c - q, rfl, by simp; omega, fun i x hi => by simp at hi⟩
         ·rw [if_neg hck]
          have hd := Sl.drop HSL.out q hq
          rw [Nat.zero_add] at hd
          refine .inr ⟨⟨g, q * 2, none⟩, c - q, by rw [hW3], ?_⟩
          rw [hW3]; exact hd
        rw [HFXE.out] at hW'
        have hwsz : w.heap.size ≤ wr.heap.size := (HE1.out.trans HXQ.out).size
        have HT2 := hide hT'
        have HM2 := hide hM'
        have HL2 := hide hL'
        have HW2 := hide hW'
        have HS1 := hide hsrc1
        have HS3 := hide hsrc3
        have hW1i : ((wF f T).take q).length ≤ 1000 := by omega
        have hW3i : ((wF f T).drop q).length ≤ 1000 := by omega
        have HW1 := hide hW1
        have HW3 := hide hW3
        clear hxn hT' hM' hL' hW' hsrc1 hsrc3 hW1 hW3
        rcases hcase with hqe | ⟨hlq, hcase⟩
        ·have hg0 : decide (q < T.length) = false := by simp; omega
         have hg0' : decide ((q : Int) < T.length) = false := by simp; omega
         have HQE := hide hqe
         clear hqe hsl
         go_wp2_with fail
         go_quiet (fail)
         all_goals
          go_wp2_with (first
          | (at_builtin; refine wpList_append_srcG (by rfl) _ _ 106 (by rfl) wr.heap.size 109 io (.agg #[.int .i64 0, .int .u64 0]) 2 16 Tryz.underlying106 ho hoz0 hoz1 hoz2 rfl (by decide) encO_len encO_one (.slice none 0 0) 0 [] (by rfl) (World.ownsRow_nil _ _ _ _) _ ((wF f T).take q) (by rfl) (SrcG.ext HS1.out (Below.drewN' (Below.refl _ _) _)) (by unfold maxLen; omega) (by omega) (Nat.le_refl _) ?_; intro v2 w2 hown2 hgrow2; have e2 : Ext wr w2 := Below.grown (Below.drewN' (Below.refl _ _) _) hgrow2 (Nat.le_refl _) (fun r hr => by simp [Value.ownBlock] at hr); obtain ⟨cX2, cF2⟩ := HCELL.out _ (HXQ.out.trans e2); have hz2 := e2.size)
          | (at_builtin; refine wpList_append_own _ (by rfl) _ _ 106 (by rfl) wr.heap.size 109 io (.agg #[.int .i64 0, .int .u64 0]) 2 16 Tryz.underlying106 ho hoz0 hoz1 hoz2 rfl (by decide) v2 _ _ (by rfl) (hown2.alloc _) ⟨w2.heap.size, 0, none⟩ 1 1 [.int .i64 x, .int .u64 fx] (by rfl) (by rfl) (World.news_of_block (cs := #[.int .i64 x, .int .u64 fx]) (t := 109) (fr := (0, 0)) (heap_alloc_new w2 _)) (by simp [Value.oneCell']) (by unfold maxLen; omega) (by omega) (by simp; omega) ?_; intro v3 w3 hown3 hgrow3 _; have e3 : Ext wr w3 := e2.app hown2 hgrow3; have hz3 := e3.size)
          | (at_builtin; refine wpList_append_srcG (by rfl) _ _ 106 (by rfl) wr.heap.size 109 io (.agg #[.int .i64 0, .int .u64 0]) 2 16 Tryz.underlying106 ho hoz0 hoz1 hoz2 rfl (by decide) encO_len encO_one v3 _ _ (by rfl) hown3 _ ((wF f T).drop q) (by rfl) (SrcG.ext HS3.out e3) (by unfold maxLen; omega) (by omega) hz3 ?_; intro v4 w4 hown4 hgrow4; have e4 : Ext wr w4 := Below.grown e3 hgrow4 hz3 (fun r hr => (hown3.lt r hr).1)))
          have hown5 : w4.ownsRow w.heap.size 109 2 v4 (T.take q ++ [x] ++ T.drop q).length ((wF f (T.take q ++ [x] ++ T.drop q)).flatMap encO) := by
           refine own_base_x hwsz ?_
           rw [HW2.out, HL2.out, List.flatMap_append, List.flatMap_append]
           have e : 0 + ((wF f T).take q).length + 1 + ((wF f T).drop q).length = T.length + 1 := by rw [HW1.out, HW3.out]; omega
           rw [e, List.nil_append] at hown4
           exact hown4
          go_roundw
          case rel => exact ⟨k + 1, T.take q ++ [x] ++ T.drop q, hlt, by go_num, by rw [HL2.out]; omega, HT2.out, HM2.out, hown5, HE1.out.trans (HXQ.out.trans e4)⟩
          case measure => simp [intOf]; omega
        ·obtain ⟨b1, o1, eb1, hb1, hca, hcb⟩ := os_at hsl q (by rw [wF_len]; exact hlq)
         cases eb1
         rw [wF_get, Nat.zero_add] at hca hcb
         obtain ⟨y, hy⟩ : ∃ y, T[q] = y := ⟨_, rfl⟩
         simp only [hy, HFXE.out] at hca hcb hcase
         have hfy := HFB.out y
         obtain ⟨fy, hfy'⟩ : ∃ z, f y = z := ⟨_, rfl⟩
         simp only [hfy'] at hca hcb hcase hfy
         have hqlz : (q : Int) < T.length := by omega
         have hs3 := HS3.out
         rw [if_neg (show ¬ c = q by omega)] at hs3
         have HS3 := hide hs3
         clear hsl hy hfy' hs3
         rcases hcase with ⟨hg1, hg2⟩ | ⟨hg1, hg2, hg3⟩
         ·have hg2' : (fy == fx) = false := by simpa using hg2
          have hg1' : decide (fy < fx) = false := by simpa using hg1
          clear hg2 hg1
          go_wp2_with fail
          go_quiet (fail)
          all_goals
           go_wp2_with (first
           | (at_builtin; refine wpList_append_srcG (by rfl) _ _ 106 (by rfl) wr.heap.size 109 io (.agg #[.int .i64 0, .int .u64 0]) 2 16 Tryz.underlying106 ho hoz0 hoz1 hoz2 rfl (by decide) encO_len encO_one (.slice none 0 0) 0 [] (by rfl) (World.ownsRow_nil _ _ _ _) _ ((wF f T).take q) (by rfl) (SrcG.ext HS1.out (Below.drewN' (Below.refl _ _) _)) (by unfold maxLen; omega) (by omega) (Nat.le_refl _) ?_; intro v2 w2 hown2 hgrow2; have e2 : Ext wr w2 := Below.grown (Below.drewN' (Below.refl _ _) _) hgrow2 (Nat.le_refl _) (fun r hr => by simp [Value.ownBlock] at hr); obtain ⟨cX2, cF2⟩ := HCELL.out _ (HXQ.out.trans e2); have hz2 := e2.size)
           | (at_builtin; refine wpList_append_own _ (by rfl) _ _ 106 (by rfl) wr.heap.size 109 io (.agg #[.int .i64 0, .int .u64 0]) 2 16 Tryz.underlying106 ho hoz0 hoz1 hoz2 rfl (by decide) v2 _ _ (by rfl) (hown2.alloc _) ⟨w2.heap.size, 0, none⟩ 1 1 [.int .i64 x, .int .u64 fx] (by rfl) (by rfl) (World.news_of_block (cs := #[.int .i64 x, .int .u64 fx]) (t := 109) (fr := (0, 0)) (heap_alloc_new w2 _)) (by simp [Value.oneCell']) (by unfold maxLen; omega) (by omega) (by simp; omega) ?_; intro v3 w3 hown3 hgrow3 _; have e3 : Ext wr w3 := e2.app hown2 hgrow3; have hz3 := e3.size)
           | (at_builtin; refine wpList_append_srcG (by rfl) _ _ 106 (by rfl) wr.heap.size 109 io (.agg #[.int .i64 0, .int .u64 0]) 2 16 Tryz.underlying106 ho hoz0 hoz1 hoz2 rfl (by decide) encO_len encO_one v3 _ _ (by rfl) hown3 _ ((wF f T).drop q) (by rfl) (SrcG.ext HS3.out e3) (by unfold maxLen; omega) (by omega) hz3 ?_; intro v4 w4 hown4 hgrow4; have e4 : Ext wr w4 := Below.grown e3 hgrow4 hz3 (fun r hr => (hown3.lt r hr).1)))
           have hown5 : w4.ownsRow w.heap.size 109 2 v4 (T.take q ++ [x] ++ T.drop q).length ((wF f (T.take q ++ [x] ++ T.drop q)).flatMap encO) := by
            refine own_base_x hwsz ?_
            rw [HW2.out, HL2.out, List.flatMap_append, List.flatMap_append]
            have e : 0 + ((wF f T).take q).length + 1 + ((wF f T).drop q).length = T.length + 1 := by rw [HW1.out, HW3.out]; omega
            rw [e, List.nil_append] at hown4
            exact hown4
           go_roundw
           case rel => exact ⟨k + 1, T.take q ++ [x] ++ T.drop q, hlt, by go_num, by rw [HL2.out]; omega, HT2.out, HM2.out, hown5, HE1.out.trans (HXQ.out.trans e4)⟩
           case measure => simp [intOf]; omega
         ·have hg2' : (fy == fx) = true := by simpa using hg2
          have hg1' : decide (fy < fx) = false := by simpa using hg1
          have hg3' : decide (y < x) = false := by simpa using hg3
          clear hg2 hg1 hg3
          go_wp2_with fail
          go_quiet (fail)
          all_goals
           go_wp2_with (first
           | (at_builtin; refine wpList_append_srcG (by rfl) _ _ 106 (by rfl) wr.heap.size 109 io (.agg #[.int .i64 0, .int .u64 0]) 2 16 Tryz.underlying106 ho hoz0 hoz1 hoz2 rfl (by decide) encO_len encO_one (.slice none 0 0) 0 [] (by rfl) (World.ownsRow_nil _ _ _ _) _ ((wF f T).take q) (by rfl) (SrcG.ext HS1.out (Below.drewN' (Below.refl _ _) _)) (by unfold maxLen; omega) (by omega) (Nat.le_refl _) ?_; intro v2 w2 hown2 hgrow2; have e2 : Ext wr w2 := Below.grown (Below.drewN' (Below.refl _ _) _) hgrow2 (Nat.le_refl _) (fun r hr => by simp [Value.ownBlock] at hr); obtain ⟨cX2, cF2⟩ := HCELL.out _ (HXQ.out.trans e2); have hz2 := e2.size)
           | (at_builtin; refine wpList_append_own _ (by rfl) _ _ 106 (by rfl) wr.heap.size 109 io (.agg #[.int .i64 0, .int .u64 0]) 2 16 Tryz.underlying106 ho hoz0 hoz1 hoz2 rfl (by decide) v2 _ _ (by rfl) (hown2.alloc _) ⟨w2.heap.size, 0, none⟩ 1 1 [.int .i64 x, .int .u64 fx] (by rfl) (by rfl) (World.news_of_block (cs := #[.int .i64 x, .int .u64 fx]) (t := 109) (fr := (0, 0)) (heap_alloc_new w2 _)) (by simp [Value.oneCell']) (by unfold maxLen; omega) (by omega) (by simp; omega) ?_; intro v3 w3 hown3 hgrow3 _; have e3 : Ext wr w3 := e2.app hown2 hgrow3; have hz3 := e3.size)
           | (at_builtin; refine wpList_append_srcG (by rfl) _ _ 106 (by rfl) wr.heap.size 109 io (.agg #[.int .i64 0, .int .u64 0]) 2 16 Tryz.underlying106 ho hoz0 hoz1 hoz2 rfl (by decide) encO_len encO_one v3 _ _ (by rfl) hown3 _ ((wF f T).drop q) (by rfl) (SrcG.ext HS3.out e3) (by unfold maxLen; omega) (by omega) hz3 ?_; intro v4 w4 hown4 hgrow4; have e4 : Ext wr w4 := Below.grown e3 hgrow4 hz3 (fun r hr => (hown3.lt r hr).1)))
           have hown5 : w4.ownsRow w.heap.size 109 2 v4 (T.take q ++ [x] ++ T.drop q).length ((wF f (T.take q ++ [x] ++ T.drop q)).flatMap encO) := by
            refine own_base_x hwsz ?_
            rw [HW2.out, HL2.out, List.flatMap_append, List.flatMap_append]
            have e : 0 + ((wF f T).take q).length + 1 + ((wF f T).drop q).length = T.length + 1 := by rw [HW1.out, HW3.out]; omega
            rw [e, List.nil_append] at hown4
            exact hown4
           go_roundw
           case rel => exact ⟨k + 1, T.take q ++ [x] ++ T.drop q, hlt, by go_num, by rw [HL2.out]; omega, HT2.out, HM2.out, hown5, HE1.out.trans (HXQ.out.trans e4)⟩
           case measure => simp [intOf]; omega
  ·obtain rfl : k = ids.length := by omega
   have hsl := Sl.of_ownN encO_len (by decide) hown (by rw [wF_len]; omega)
   have hTx : T = rowOf key (pointsOf p ids) := HUQ.out T hT (fun x => by rw [hTm x, List.take_length])
   have HTX := hide hTx
   have HSL := hide hsl
   have hTl : T.length ≤ 1000 := by omega
   have HE := hide hext
   obtain ⟨a7, c7, rfl⟩ := own_shape hown
   have hwz := hext.size
   obtain ⟨wz, rfl⟩ : ∃ wz : World, wz = wr := ⟨_, rfl⟩
   clear hT hTm hown hext hsl hTx
   go_wp2_with fail
   go_loopw [12, 13] (fun v i u => ∃ j : Nat, j ≤ T.length ∧ i = .int .i64 j ∧ u.ownsRow wz.heap.size 3 1 v j ((T.take j).flatMap encI) ∧ Ext wz u) (fun _ i _ => (T.length - intOf i).toNat)
   case atStart => exact ⟨0, by omega, rfl, by simpa using World.ownsRow_nil _ _ _ _, Below.refl _ _⟩
   case round =>
    obtain ⟨j, hj, rfl, hown, hext⟩ := hrel
    by_cases hlt : j < T.length
    ·obtain ⟨b1, o1, eb1, hb1, hca, hcb⟩ := os_at (HSL.out.ext hext) j (by rw [wF_len]; exact hlt)
     subst eb1
     rw [wF_get] at hca hcb
     have hts := flat_snoc encI T j hlt
     obtain ⟨y, hy⟩ : ∃ y, T[j] = y := ⟨_, rfl⟩
     simp only [hy] at hca hcb hts
     have HTS := hide hts
     have hsz := hext.size
     clear hts hy
     go_wp2_with (at_builtin; refine wpList_append_own _ (by rfl) _ _ 22 (by rfl) wz.heap.size 3 i0 (.int .i64 0) 1 8 Tryz.underlying22 hi hz0 hz1 hz2 rfl (by decide) _ j _ (by rfl) (hown.alloc _) ⟨wr.heap.size, 0, none⟩ 1 1 [.int .i64 y] (by rfl) (by rfl) (cells_new wr [.int .i64 y] 3) (by simp [Value.oneCell']) (by unfold maxLen; omega) (by omega) (by simp; omega) ?_; intro v2 w2 hown2 hgrow2 _)
     go_roundw
     case rel => exact ⟨j + 1, hlt, by go_num, by rw [HTS.out]; exact hown2, hext.app hown hgrow2⟩
     case measure => simp [intOf]; omega
    ·obtain rfl : j = T.length := by omega
     rw [List.take_length] at hown
     have hfin := own_ints_b hown (by omega)
     rw [HTX.out] at hfin
     have HF := hide hfin
     clear hown hfin
     go_wp2
     go_ret
     exact ⟨_, rfl, HF.out, HE.out.trans hext⟩
end Go.Proofs.YtofjcokclegkhaaGreatDoor.Rg
