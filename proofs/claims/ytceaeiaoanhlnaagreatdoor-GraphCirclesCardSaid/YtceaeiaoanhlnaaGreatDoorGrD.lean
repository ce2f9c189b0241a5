import Derived.Test.YtceaeiaoanhlnaaGreatDoorZga
namespace Go.Proofs.YtceaeiaoanhlnaaGreatDoor
open Go.ChangeShapes Go.WideShapes Go.ChangeAt Go.RowKit Go.Lib Go.Shelf
/-- rows of numbers that one call listed -/
structure KO (w1 wr : World) (v : Value) (vs : List Value) (A : List (List Int)) : Prop where
 s : wr.ownsRow w1.heap.size 22 1 v A.length vs
 r : RowsO w1.heap.size wr vs A
 ext : Ext w1 wr
theorem KO.to {w1 wr w2 : World} {v : Value} {vs : List Value} {A : List (List Int)} (h : KO w1 wr v vs A) (e : Ext wr w2) : KO w1 w2 v vs A := ⟨owns_ext h.s e, h.r.to e, h.ext.trans e⟩
theorem KO.add {w1 wr w7 wz : World} {v v' u : Value} {vs : List Value} {A : List (List Int)} {l : List Int} (h : KO w1 wr v vs A) (hv : w7.ownsRow w1.heap.size 3 1 u l.length (l.flatMap encI)) (e : Ext wr w7) (g : w7.grownBy wz v.ownBlock) (ho : wz.ownsRow w1.heap.size 22 1 v' (A.length + 1) (vs ++ [u])) : KO w1 wz v' (vs ++ [u]) (A ++ [l]) := by
 have h7 := h.to e
 have hk : Keeps (fun q => v.ownBlock = some q) w7 wz := Keeps.of_grown g fun q h => h
 have hX := OfT.own h7.s
 exact ⟨by simpa using ho, (h7.r.keepT hk hX (by decide)).snoc (owns_keepT hv hk hX (by decide)), Keeps.ext h7.ext hk fun q hq => (h7.s.lt q hq).1⟩
theorem KO.addK {w1 w7 wz : World} {v v' u : Value} {vs : List Value} {A : List (List Int)} {l : List Int} (h7 : KO w1 w7 v vs A) (hv : w7.ownsRow w1.heap.size 3 1 u l.length (l.flatMap encI)) (hk : Keeps (fun q => v.ownBlock = some q) w7 wz) (ho : wz.ownsRow w1.heap.size 22 1 v' (A.length + 1) (vs ++ [u])) : KO w1 wz v' (vs ++ [u]) (A ++ [l]) := by
 have hX := OfT.own h7.s
 exact ⟨by simpa using ho, (h7.r.keepT hk hX (by decide)).snoc (owns_keepT hv hk hX (by decide)), Keeps.ext h7.ext hk fun q hq => (h7.s.lt q hq).1⟩
theorem RowsO.monoG {B B' : Nat} {w : World} (hB : B' ≤ B) : ∀ {vs : List Value} {ls : List (List Int)}, RowsO B w vs ls → RowsO B' w vs ls
 | [], [], _ => trivial
 | _ :: _, _ :: _, h => ⟨owns_monoG h.1 hB, RowsO.monoG hB h.2⟩
 | [], _ :: _, h => h.elim
 | _ :: _, [], h => h.elim
/-- a row that a call made, of rows of numbers that it made -/
def KidsO (B : Nat) (w : World) (v : Value) (K : List (List Int)) : Prop := ∃ vs : List Value, w.ownsRow B 22 1 v K.length vs ∧ RowsO B w vs K
theorem KidsO.kids {B : Nat} {w : World} {v : Value} {K : List (List Int)} (h : KidsO B w v K) : KidsV B w v K := by
 obtain ⟨vs, h1, h2⟩ := h
 exact ⟨vs, h1, h2.read⟩
/-- the phases of 'out = append(out, f(..))' -/
def PhK1 (B : Nat) (W : World) (v5 : Value) (n : Nat) (vs0 : List Value) (l : List Int) : List Value → World → Prop
 | [], w' => Ext W w'
 | [u], w' => ∃ w8, Ext W w8 ∧ w8.ownsRow B 3 1 u l.length (l.flatMap encI) ∧ Ext w8 w'
 | [u, z], w' => ∃ w8, Ext W w8 ∧ w8.ownsRow B 3 1 u l.length (l.flatMap encI) ∧ z = .slice (some ⟨w8.heap.size, 0, none⟩) 1 1 ∧ Ext (w8.alloc (.cells #[u] 22)) w'
 | [u, _, r], w' => ∃ w7 w9, Ext W w7 ∧ w7.ownsRow B 3 1 u l.length (l.flatMap encI) ∧ w7.grownBy w9 v5.ownBlock ∧ w9.ownsRow B 22 1 r (n + 1) (vs0 ++ [u]) ∧ Ext w9 w'
 | u :: _ :: r :: z :: _, w' => z = r ∧ ∃ w7 w9, Ext W w7 ∧ w7.ownsRow B 3 1 u l.length (l.flatMap encI) ∧ w7.grownBy w9 v5.ownBlock ∧ w9.ownsRow B 22 1 r (n + 1) (vs0 ++ [u]) ∧ Ext w9 w'
theorem PhK1.keep {B : Nat} {W : World} {v5 : Value} {n : Nat} {vs0 : List Value} {l : List Int} : ∀ {vs : List Value} {w' w'' : World}, PhK1 B W v5 n vs0 l vs w' → Ext w' w'' → PhK1 B W v5 n vs0 l vs w''
 | [], _, _, h, e => Ext.trans h e
 | [_], _, _, ⟨w8, h1, h2, h3⟩, e => ⟨w8, h1, h2, h3.trans e⟩
 | [_, _], _, _, ⟨w8, h1, h2, h3, h4⟩, e => ⟨w8, h1, h2, h3, h4.trans e⟩
 | [_, _, _], _, _, ⟨w7, w9, h1, h2, h3, h4, h5⟩, e => ⟨w7, w9, h1, h2, h3, h4, h5.trans e⟩
 | _ :: _ :: _ :: _ :: _, _, _, ⟨h0, w7, w9, h1, h2, h3, h4, h5⟩, e => ⟨h0, w7, w9, h1, h2, h3, h4, h5.trans e⟩
theorem PhK1.x {B : Nat} {W : World} {v5 : Value} {n : Nat} {vs0 : List Value} {l : List Int} {vs : List Value} {w' : World} (h : PhK1 B W v5 n vs0 l vs w') (hl : vs.length ≤ 0) : Ext W w' := by
 rcases vs with _ | ⟨v, vs⟩
 ·exact h
 ·simp at hl
theorem rows_lit1 {w w' : World} {u : Value} (h : Ext (w.alloc (.cells #[u] 22)) w') : Sl (fun v : Value => [v]) 1 w' (.slice (some ⟨w.heap.size, 0, none⟩) 1 1) [u] := by
 have h1 := World.ownsRow_lit (base := 0) (e := 22) (size := 1) w #[u] 1 (Nat.zero_le _) (by unfold maxLen; omega) rfl
 have h2 : Sl (fun v : Value => [v]) 1 (w.alloc (.cells #[u] 22)) (.slice (some ⟨w.heap.size, 0, none⟩) 1 1) [u] := Sl.of_own' (enc := fun v : Value => [v]) (xs := [u]) (fun _ => rfl) (base := 0) (e := 22) h1
 exact h2.ext h
set_option maxRecDepth 100000 in
set_option maxHeartbeats 16000000 in
/-- whom a service calls, by definition -/
theorem rkids_own (c : ConfD) (id : Int) (w : World) (h : GC w c) :
  Calls Tryz.prog 12 #[.agg (encC c).toArray, .int .i64 id] w fun e w' => ∃ v, e = .returned v ∧ KidsO w.heap.size w' v (kidsG c id) ∧ Ext w w' := by
 obtain ⟨cd, hcd1, hcd2⟩ := Tryz.confDesc
 obtain ⟨il, zl, hi0, hi1, hi2, hi3, hi4⟩ := info_partsN gInfoL
 have hx : Ext w (w.alloc (.cells (encC c).toArray 30)) := (Below.refl _ _).alloc (Nat.le_refl _) _
 have hb1 := heap_alloc_new w (.cells (encC c).toArray 30)
 have HG := hide (h.ext hx)
 have HCK := hide h.chk
 have HFI := hide (rsvc_any c id _ (h.ext hx))
 have HSZ := hide (h.ksz id)
 have HKL := hide (find_kids h.chk id)
 have HST := hide ((h.find id).ext hx)
 clear h
 rw [kidsG_eq]
 generalize findS c.S id = s at *
 obtain ⟨_, ka, kc, hkv⟩ := HST.out.shape
 obtain ⟨sid, skv, Ks, swork, sslots, squeue, sbal, swarm⟩ := s
 simp only at hkv HST HSZ HKL HFI ⊢
 subst hkv
 go_enter Tryz.func12, Tryz.ntmps12
 go_upto_region 2 with (fail)
 show Code.wp _ _ _ _ (w.alloc (.cells (encC c).toArray 30))
 generalize w.alloc (.cells (encC c).toArray 30) = W at hx hb1 HG HFI HST ⊢
 have HX := hide hx
 obtain ⟨b0, hb0⟩ : ∃ b, w.heap.size = b := ⟨_, rfl⟩
 rw [hb0] at hb1 ⊢
 have HBX := hide (fun X (hX : Ext W X) => (hX.block b0 (Array.getElem?_eq_some_iff.1 hb1).1).trans hb1)
 clear hx
 refine wp_region_lit ?_
 refine wpList_load_mid rfl 30 (.tmp 2) rfl b0 0 rfl (encC c) cd (range_box hb1) hcd1 hcd2 Tryz.confSize ?_
 clear hb1
 refine wpList_plain rfl fun Kq hKq => ?_
 go_simp
 refine hKq _ _ ?_
 refine wpList_plain rfl fun Kq hKq => ?_
 go_simp
 refine HFI.out.mono ?_
 rintro e w1 ⟨rfl, E1⟩
 refine hKq _ _ ?_
 clear hKq Kq HFI
 have HST1 := hide (HST.out.ext E1)
 have HGE := hide (fun (X : World) (hX : Ext w1 X) => HG.out.ext (E1.trans hX))
 have HBE := hide (fun (X : World) (hX : Ext w1 X) => HBX.out X (E1.trans hX))
 have HX1 := hide (HX.out.trans E1)
 have HB0 := hide hb0
 clear HST E1 HG HBX HX hb0
 simp only [SvcD.val]
 refine wpList_plain rfl fun Kq hKq => ?_
 go_simp
 refine hKq _ _ ?_
 clear hKq Kq
 refine wpList_plain rfl fun Kq hKq => ?_
 go_simp
 refine hKq _ _ ?_
 clear hKq Kq
 refine wpList_nil ?_
 go_wp2_with fail
 go_loopw [5, 7] (fun v5 v7 wr => ∃ (k : Nat) (vs : List Value), k ≤ Ks.length ∧ v7 = .int .i64 k ∧ KO w1 wr v5 vs ((Ks.take k).map (targS c.R))) (fun _ k _ => Ks.length - (intOf k).toNat)
 case atStart => exact ⟨0, [], Nat.zero_le _, rfl, World.ownsRow_nil _ _ _ _, trivial, Below.refl _ _⟩
 case round =>
  obtain ⟨k, vs, hk, rfl, hks⟩ := hrel
  have HKO := hide hks
  obtain ⟨xa, xc, rfl⟩ := owns_shape hks.s
  clear hks
  by_cases hlt : k < Ks.length
  ·have hltz : (k : Int) < Ks.length := by omega
   have hwk : IntKind.i64.wrap ((k : Int) + 1) = ((k + 1 : Nat) : Int) := by have := HKL.out; rw [IntKind.wrap_i64]; omega
   obtain ⟨sb, so, rfl, hsb, z0⟩ := strs_row HST1.out k hlt
   have HSN := hide (show (Ks.take (k + 1)).map (targS c.R) = (Ks.take k).map (targS c.R) ++ [targS c.R Ks[k]] by rw [take_snoc Ks k hlt, List.map_append]; rfl)
   have hsk := HSZ.out Ks[k] (List.getElem_mem hlt)
   have hal : ((Ks.take k).map (targS c.R)).length ≤ 4 := by
    have h2 := List.length_take_le k Ks
    have h3 := HKL.out
    rw [List.length_map]
    omega
   generalize Ks[k] = p at z0 hsk HSN
   have HSTR := hide (fun X (hX : Ext wr X) => cell_ext (HKO.out.ext.trans hX) z0)
   have HBR := hide (fun X (hX : Ext wr X) => HBE.out X (HKO.out.ext.trans hX))
   have HSER := hide (fun X (hX : Ext wr X) => rser_any c p X (HGE.out X (HKO.out.ext.trans hX)) hsk)
   have HB := hide (fun X (hX : Ext wr X) => Nat.le_trans HKO.out.ext.size hX.size)
   have HAL := hide hal
   clear z0 hsk hal hsb
   generalize targS c.R p = l at HSN HSER
   generalize (Ks.take k).map (targS c.R) = A at HSN HKO HAL ⊢
   go_upto_region 6 with (fail)
   refine wp_region_rwz 57 [6, 7, 8, 9] [5, 21, 22, 23, 24, 25, 26, 27, 28, 29] (PhK1 w1.heap.size wr (.slice xa A.length xc) A.length vs l) (fun (t : Nat) (wI : World) (v : Value) => match t with | 21 => v = (.slice xa A.length xc) | 22 => v = (.agg (encC c).toArray) | 23 => v = (.slice (some ⟨sb, so, none⟩) Ks.length kc) | 24 => v = (.int .i64 (k : Int)) | 25 => v = (.pointer (some ⟨sb, so + k, none⟩)) | 26 => v = (.string p) | _ => True) (fun _ _ => True) (by kernel_rfl) rfl (by kernel_rfl) (by kernel_rfl) (by kernel_rfl) (by kernel_rfl) ?_ ?_ ?_ ?_ ?_ ?_ ?_
   ·intro w' w'' h
    trivial
   ·intro t w' w'' v hR hv
    exact hv
   ·intro vs w' w'' h e
    exact h.keep e
   ·exact (Below.refl _ _).drew
   ·intro i o ho hmi vs X w' hpk hph hX hI hF K hK
    have hin : i < 10 := (Array.getElem?_eq_some_iff.1 ho).1
    have hi : i = 0 ∨ i = 1 ∨ i = 2 ∨ i = 3 ∨ i = 4 ∨ i = 5 ∨ i = 6 ∨ i = 7 ∨ i = 8 ∨ i = 9 := by omega
    rcases hi with rfl | rfl | rfl | rfl | rfl | rfl | rfl | rfl | rfl | rfl
    ·obtain rfl := Option.some.inj ho
     have e5 : X 5 = (.slice xa A.length xc) := hF 5 (by kernel_rfl)
     unfold wpOp
     simp only [ho]
     rw [if_pos (by rfl)]
     left
     rw [frame57]
     go_simp
     refine metK (hK.out ((.slice xa A.length xc)) _ (Below.refl _ _) (fun d hd => by cases hd; exact rfl)) ?_
     simp [frame57, Act.put, *]
    ·obtain rfl := Option.some.inj ho
     have e2 : X 2 = (.pointer (some ⟨b0, 0, none⟩)) := hF 2 (by kernel_rfl)
     have hx := hph.x ((hpk 0 (by decide)).2 (by kernel_rfl))
     unfold wpOp
     simp only [ho]
     rw [if_pos (by rfl)]
     left
     rw [frame57]
     refine wp_load_mid 30 (.tmp 2) rfl b0 0 e2 (encC c) cd (range_box (HBR.out w' hx)) hcd1 hcd2 Tryz.confSize (metK (hK.out (.agg (encC c).toArray) _ (Below.refl _ _) (fun d hd => by cases hd; exact rfl)) ?_)
     simp [frame57, Act.put, *]
    ·obtain rfl := Option.some.inj ho
     have e6 : X 6 = (.slice (some ⟨sb, so, none⟩) Ks.length kc) := hF 6 (by kernel_rfl)
     unfold wpOp
     simp only [ho]
     rw [if_pos (by rfl)]
     left
     rw [frame57]
     go_simp
     refine metK (hK.out ((.slice (some ⟨sb, so, none⟩) Ks.length kc)) _ (Below.refl _ _) (fun d hd => by cases hd; exact rfl)) ?_
     simp [frame57, Act.put, *]
    ·obtain rfl := Option.some.inj ho
     have e7 : X 7 = (.int .i64 (k : Int)) := hF 7 (by kernel_rfl)
     unfold wpOp
     simp only [ho]
     rw [if_pos (by rfl)]
     left
     rw [frame57]
     go_simp
     refine metK (hK.out ((.int .i64 (k : Int))) _ (Below.refl _ _) (fun d hd => by cases hd; exact rfl)) ?_
     simp [frame57, Act.put, *]
    ·obtain rfl := Option.some.inj ho
     have e23 : X 23 = _ := hI 23 (by kernel_rfl) (by kernel_rfl)
     have e24 : X 24 = _ := hI 24 (by kernel_rfl) (by kernel_rfl)
     unfold wpOp
     simp only [ho]
     rw [if_pos (by rfl)]
     left
     rw [frame57]
     go_simp
     refine metK (hK.out ((.pointer (some ⟨sb, so + k, none⟩))) _ (Below.refl _ _) (fun d hd => by cases hd; exact rfl)) ?_
     simp [frame57, Act.put, *]
    ·obtain rfl := Option.some.inj ho
     have e25 : X 25 = _ := hI 25 (by kernel_rfl) (by kernel_rfl)
     have hx := hph.x ((hpk 0 (by decide)).2 (by kernel_rfl))
     have q := HSTR.out w' hx
     unfold wpOp
     simp only [ho]
     rw [if_pos (by rfl)]
     left
     rw [frame57]
     go_simp
     refine metK (hK.out ((.string p)) _ (Below.refl _ _) (fun d hd => by cases hd; exact rfl)) ?_
     simp [frame57, Act.put, *]
    ·exact absurd hmi (by decide)
    ·exact absurd hmi (by decide)
    ·exact absurd hmi (by decide)
    ·exact absurd hmi (by decide)
   ·intro i o ho hmi vs X w' hqi hql hph hX hI hF K hK
    rcases vs with _ | ⟨v0, _ | ⟨v1, _ | ⟨v2, _ | ⟨v3, _⟩⟩⟩⟩
    ·obtain rfl : 6 = i := hqi
     obtain rfl := Option.some.inj ho
     have e22 : X 22 = _ := hI 22 (by kernel_rfl) (by kernel_rfl)
     have e26 : X 26 = _ := hI 26 (by kernel_rfl) (by kernel_rfl)
     have hx : Ext wr w' := hph
     unfold wpOp
     simp only [ho]
     rw [if_pos (by rfl)]
     left
     rw [frame57]
     go_simp
     refine (HSER.out w' hx).mono ?_
     rintro e w9 ⟨u9, rfl, ho9, E9⟩
     refine metK (hK.out u9 w9 ⟨w9, hx.trans E9, owns_monoG ho9 (HB.out w' hx), Below.refl _ _⟩ trivial) ?_
     simp [frame57, Act.put, *]
    ·obtain rfl : 7 = i := hqi
     obtain rfl := Option.some.inj ho
     have e27 : X 27 = v0 := hX 0 27 (by simp) (by kernel_rfl)
     obtain ⟨w8, h1, h2, h3⟩ := hph
     obtain ⟨ua, uc, rfl⟩ := owns_shape h2
     unfold wpOp
     simp only [ho]
     rw [if_pos (by rfl)]
     left
     rw [frame57]
     go_simp
     refine metK (hK.out (.slice (some ⟨w'.heap.size, 0, none⟩) 1 1) _ ⟨w', h1.trans h3, owns_ext h2 h3, rfl, Below.refl _ _⟩ trivial) ?_
     simp [frame57, Act.put, *]
    ·obtain rfl : 8 = i := hqi
     obtain rfl := Option.some.inj ho
     have e21 : X 21 = _ := hI 21 (by kernel_rfl) (by kernel_rfl)
     have e28 : X 28 = v1 := hX 1 28 (by simp) (by kernel_rfl)
     obtain ⟨w8, h1, h2, h4, h3⟩ := hph
     obtain ⟨ua, uc, rfl⟩ := owns_shape h2
     have hE8 : Ext w8 w' := Ext.trans (show Ext w8 (w8.alloc (.cells #[.slice ua l.length uc] 22)) from (Below.refl _ _).alloc (Nat.le_refl _) _) h3
     unfold wpOp
     simp only [ho]
     rw [if_pos (by rfl)]
     left
     rw [frame57]
     refine wp_append_sl (enc := fun v : Value => [v]) (.tmp 21) (.tmp 28) 33 rfl w1.heap.size 22 il zl 1 24 Tryz.underlying33 hi0 hi1 hi2 hi3 hi4 (by decide) (fun _ => rfl) (.slice xa A.length xc) A.length vs (by simp [Act.eval, *]) (owns_ext HKO.out.s (Ext.trans h1 hE8)) (.slice (some ⟨w8.heap.size, 0, none⟩) 1 1) (by simp [Act.eval, *]) [.slice ua l.length uc] (rows_lit1 h3) (fun x hx u hu => by rw [List.mem_singleton.1 hx] at hu; rw [List.mem_singleton.1 hu]; rfl) (by have := HAL.out; unfold maxLen; simp; omega) (by have := HAL.out; simp; omega) (Nat.le_trans (HB.out w8 h1) hE8.size) (fun v' w9 ho9 hg9 => ?_)
     refine metK (hK.out v' w9 ⟨w', w9, Ext.trans h1 hE8, owns_ext h2 hE8, hg9, by simpa using ho9, Below.refl _ _⟩ trivial) ?_
     simp [frame57, Act.put, *]
    ·obtain rfl : 9 = i := hqi
     obtain rfl := Option.some.inj ho
     have e29 : X 29 = v2 := hX 2 29 (by simp) (by kernel_rfl)
     unfold wpOp
     simp only [ho]
     rw [if_pos (by rfl)]
     left
     rw [frame57]
     go_simp
     obtain ⟨w7, w9, h1, h2, hg, ho, h9⟩ := hph
     refine metK (hK.out v2 w' ⟨rfl, w7, w9, h1, h2, hg, ho, h9⟩ trivial) ?_
     simp [frame57, Act.put, *]
    ·simp at hql <;> omega
   ·intro vs X w' hlen hph hX hI
    have e21 : X 21 = _ := hI 21 (by omega) (by kernel_rfl) (by kernel_rfl)
    have e22 : X 22 = _ := hI 22 (by omega) (by kernel_rfl) (by kernel_rfl)
    have e23 : X 23 = _ := hI 23 (by omega) (by kernel_rfl) (by kernel_rfl)
    have e24 : X 24 = _ := hI 24 (by omega) (by kernel_rfl) (by kernel_rfl)
    have e25 : X 25 = _ := hI 25 (by omega) (by kernel_rfl) (by kernel_rfl)
    have e26 : X 26 = _ := hI 26 (by omega) (by kernel_rfl) (by kernel_rfl)
    rcases vs with _ | ⟨v0, _ | ⟨v1, _ | ⟨v2, _ | ⟨v3, _ | ⟨vz, vs⟩⟩⟩⟩⟩
    ·simp at hlen
    ·simp at hlen
    ·simp at hlen
    ·simp at hlen
    rotate_left
    ·simp at hlen
    have e5 : X 5 = v3 := hX 3 5 (by simp) (by kernel_rfl)
    have e27 : X 27 = v0 := hX 0 27 (by simp) (by kernel_rfl)
    have e28 : X 28 = v1 := hX 1 28 (by simp) (by kernel_rfl)
    have e29 : X 29 = v2 := hX 2 29 (by simp) (by kernel_rfl)
    clear hX hI hlen
    simp only [overF, List.foldl_cons, List.foldl_nil, List.setIfInBounds_toArray, List.set_cons_succ, List.set_cons_zero, e5, e21, e22, e23, e24, e25, e26, e27, e28, e29]
    obtain ⟨rfl, w7, w9, h1, h2, hg, ho, h9⟩ := hph
    have hko := (HKO.out.add h2 h1 hg ho).to h9
    obtain ⟨ya, yc, rfl⟩ := owns_shape hko.s
    have HK2 := hide hko
    clear hg ho h9 h1 h2 hko e21 e22 e23 e24 e25 e26 e27 e28 e29
    generalize w' = W9 at *
    go_wp2
    go_roundw
    case rel => exact ⟨k + 1, _, hlt, by go_num, by rw [HSN.out]; exact HK2.out⟩
    case measure => simp [intOf] <;> omega
  ·obtain rfl : k = Ks.length := by omega
   have hltz : ¬ (Ks.length : Int) < Ks.length := by omega
   rw [List.take_length] at HKO
   have HK0 := hide (show KO w1 wr (.slice xa (Ks.map (targS c.R)).length xc) vs (Ks.map (targS c.R) ++ lastG c.R (Ks.take 0)) from by simpa [lastG] using HKO.out)
   clear HKO
   go_wp2_with fail
   clear hltz hlt hk
   go_loopw [5, 8] (fun v5 v8 wr2 => ∃ (k : Nat) (vs : List Value), k ≤ Ks.length ∧ v8 = .int .i64 k ∧ KO w1 wr2 v5 vs (Ks.map (targS c.R) ++ lastG c.R (Ks.take k))) (fun _ k _ => Ks.length - (intOf k).toNat)
   case atStart => exact ⟨0, vs, Nat.zero_le _, rfl, by simpa using HK0.out⟩
   case round =>
    obtain ⟨k, vs, hk, rfl, hks⟩ := hrel
    have HKO := hide hks
    obtain ⟨xa, xc, rfl⟩ := owns_shape hks.s
    clear hks
    by_cases hlt : k < Ks.length
    ·have hltz : (k : Int) < Ks.length := by omega
     have hwk : IntKind.i64.wrap ((k : Int) + 1) = ((k + 1 : Nat) : Int) := by have := HKL.out; rw [IntKind.wrap_i64]; omega
     obtain ⟨sb, so, rfl, hsb, z0⟩ := strs_row HST1.out k hlt
     have hsn := lastG_snoc c.R Ks k hlt
     have hsk := HSZ.out Ks[k] (List.getElem_mem hlt)
     have hal : (Ks.map (targS c.R) ++ lastG c.R (Ks.take k)).length ≤ 100 := by
      have h1 := lastG_len HCK.out (Ks.take k)
      have h2 := List.length_take_le k Ks
      have h3 := HKL.out
      rw [List.length_append, List.length_map]
      omega
     have hdl := (targ_len HCK.out Ks[k]).2
     generalize Ks[k] = p at z0 hsk hsn hdl
     have HSTR := hide (fun X (hX : Ext wr X) => cell_ext (HKO.out.ext.trans hX) z0)
     have HBR := hide (fun X (hX : Ext wr X) => HBE.out X (HKO.out.ext.trans hX))
     have HCOP := hide (fun X (hX : Ext wr X) => rcop_any c p X (HGE.out X (HKO.out.ext.trans hX)) hsk)
     have HB := hide (fun X (hX : Ext wr X) => Nat.le_trans HKO.out.ext.size hX.size)
     generalize targC c.R p = D at hsn HCOP hdl
     obtain ⟨A, hA⟩ : ∃ A, Ks.map (targS c.R) ++ lastG c.R (Ks.take k) = A := ⟨_, rfl⟩
     rw [hA] at HKO hal ⊢
     have HAE := hide hA
     clear hA
     have HAL := hide hal
     have HSN := hide hsn
     have HDL := hide hdl
     clear z0 hsk hal hsb hsn hdl
     go_upto_region 10 with (fail)
     refine wp_region_ro 57 [9, 36, 37, 38, 39, 40, 41] (fun w' => Ext wr w') (fun (t : Nat) (wI : World) (v : Value) => match t with | 9 => ∃ a cc, v = .slice a D.length cc ∧ wI.ownsRow w1.heap.size 3 1 v D.length (D.flatMap encI) | 36 => v = (.agg (encC c).toArray) | 37 => v = (.slice (some ⟨sb, so, none⟩) Ks.length kc) | 38 => v = (.int .i64 (k : Int)) | 39 => v = (.pointer (some ⟨sb, so + k, none⟩)) | 40 => v = (.string p) | 41 => ∃ a cc, v = .slice a D.length cc ∧ wI.ownsRow w1.heap.size 3 1 v D.length (D.flatMap encI) | _ => True) (by kernel_rfl) rfl (by kernel_rfl) (by kernel_rfl) (by kernel_rfl) ?_ ?_ ?_ ?_ ?_
     ·intro t w' w'' v hR hv
      split at hv <;> first | exact hv | (obtain ⟨a, cc, h1, h2⟩ := hv; exact ⟨a, cc, h1, owns_ext h2 hR⟩)
     ·intro w' w'' h e
      exact Ext.trans (show Ext _ w' from h) e
     ·exact (Below.refl _ _).drew
     ·intro i o ho X w' hph hI hF K hK
      have hin : i < 7 := (Array.getElem?_eq_some_iff.1 ho).1
      have hi : i = 0 ∨ i = 1 ∨ i = 2 ∨ i = 3 ∨ i = 4 ∨ i = 5 ∨ i = 6 := by omega
      rcases hi with rfl | rfl | rfl | rfl | rfl | rfl | rfl
      ·obtain rfl := Option.some.inj ho
       have e2 : X 2 = (.pointer (some ⟨b0, 0, none⟩)) := hF 2 (by kernel_rfl)
       have hx : Ext wr w' := hph
       unfold wpOp
       simp only [ho]
       rw [if_pos (by rfl)]
       left
       rw [frame57]
       refine wp_load_mid 30 (.tmp 2) rfl b0 0 e2 (encC c) cd (range_box (HBR.out w' hx)) hcd1 hcd2 Tryz.confSize (metK (hK.out (.agg (encC c).toArray) _ (Below.refl _ _) (fun d hd => by cases hd; exact rfl)) ?_)
       simp [frame57, Act.put, *]
      ·obtain rfl := Option.some.inj ho
       have e6 : X 6 = (.slice (some ⟨sb, so, none⟩) Ks.length kc) := hF 6 (by kernel_rfl)
       unfold wpOp
       simp only [ho]
       rw [if_pos (by rfl)]
       left
       rw [frame57]
       go_simp
       refine metK (hK.out ((.slice (some ⟨sb, so, none⟩) Ks.length kc)) _ (Below.refl _ _) (fun d hd => by cases hd; exact rfl)) ?_
       simp [frame57, Act.put, *]
      ·obtain rfl := Option.some.inj ho
       have e8 : X 8 = (.int .i64 (k : Int)) := hF 8 (by kernel_rfl)
       unfold wpOp
       simp only [ho]
       rw [if_pos (by rfl)]
       left
       rw [frame57]
       go_simp
       refine metK (hK.out ((.int .i64 (k : Int))) _ (Below.refl _ _) (fun d hd => by cases hd; exact rfl)) ?_
       simp [frame57, Act.put, *]
      ·obtain rfl := Option.some.inj ho
       have e37 : X 37 = _ := hI 37 (by kernel_rfl)
       have e38 : X 38 = _ := hI 38 (by kernel_rfl)
       unfold wpOp
       simp only [ho]
       rw [if_pos (by rfl)]
       left
       rw [frame57]
       go_simp
       refine metK (hK.out ((.pointer (some ⟨sb, so + k, none⟩))) _ (Below.refl _ _) (fun d hd => by cases hd; exact rfl)) ?_
       simp [frame57, Act.put, *]
      ·obtain rfl := Option.some.inj ho
       have e39 : X 39 = _ := hI 39 (by kernel_rfl)
       have hx : Ext wr w' := hph
       have q := HSTR.out w' hx
       unfold wpOp
       simp only [ho]
       rw [if_pos (by rfl)]
       left
       rw [frame57]
       go_simp
       refine metK (hK.out ((.string p)) _ (Below.refl _ _) (fun d hd => by cases hd; exact rfl)) ?_
       simp [frame57, Act.put, *]
      ·obtain rfl := Option.some.inj ho
       have e36 : X 36 = _ := hI 36 (by kernel_rfl)
       have e40 : X 40 = _ := hI 40 (by kernel_rfl)
       have hx : Ext wr w' := hph
       unfold wpOp
       simp only [ho]
       rw [if_pos (by rfl)]
       left
       rw [frame57]
       go_simp
       refine (HCOP.out w' hx).mono ?_
       rintro e w9 ⟨u9, rfl, ho9, E9⟩
       obtain ⟨ua, uc, rfl⟩ := owns_shape ho9
       refine metK (hK.out (.slice ua D.length uc) w9 E9 (fun d hd => by cases hd; exact ⟨ua, uc, rfl, owns_monoG ho9 (HB.out w' hx)⟩)) ?_
       simp [frame57, Act.put, *]
      ·obtain rfl := Option.some.inj ho
       have y41 := hI 41 (by kernel_rfl)
       obtain ⟨ua, uc, e41, ho9⟩ := y41
       rw [e41] at ho9
       unfold wpOp
       simp only [ho]
       rw [if_pos (by rfl)]
       left
       rw [frame57]
       go_simp
       refine metK (hK.out (.slice ua D.length uc) w' (Below.refl _ _) (fun d hd => by cases hd; exact ⟨ua, uc, rfl, ho9⟩)) ?_
       simp [frame57, Act.put, *]
     ·intro X w' hph hI
      have y9 := hI 9 (by kernel_rfl)
      have e36 : X 36 = _ := hI 36 (by kernel_rfl)
      have e37 : X 37 = _ := hI 37 (by kernel_rfl)
      have e38 : X 38 = _ := hI 38 (by kernel_rfl)
      have e39 : X 39 = _ := hI 39 (by kernel_rfl)
      have e40 : X 40 = _ := hI 40 (by kernel_rfl)
      have y41 := hI 41 (by kernel_rfl)
      clear hI
      simp only [overF, List.foldl_cons, List.foldl_nil, List.setIfInBounds_toArray, List.set_cons_succ, List.set_cons_zero, e36, e37, e38, e39, e40]
      obtain ⟨ua, uc, hv9, ho9⟩ := y9
      rw [hv9] at ho9
      simp only [hv9]
      have hx9 : Ext wr w' := hph
      have HKD := hide (HKO.out.to hx9)
      have HDO := hide ho9
      clear hph hx9 ho9 hv9 y41 e36 e37 e38 e39 e40
      generalize X 41 = u41
      generalize w' = W9 at *
      go_wp2_with fail
      go_loopw [5, 10] (fun v5 v10 wr3 => ∃ (j : Nat) (vs : List Value), j ≤ D.length ∧ v10 = .int .i64 j ∧ KO w1 wr3 v5 vs (A ++ onesC (D.take j)) ∧ wr3.ownsRow w1.heap.size 3 1 (.slice ua D.length uc) D.length (D.flatMap encI)) (fun _ j _ => D.length - (intOf j).toNat)
      case atStart => exact ⟨0, vs, Nat.zero_le _, rfl, by simpa [onesC] using HKD.out, HDO.out⟩
      case round =>
       obtain ⟨j, vs2, hj, rfl, hks, hdo⟩ := hrel
       have HKJ := hide hks
       have HDJ := hide hdo
       obtain ⟨ya, yc, rfl⟩ := owns_shape hks.s
       clear hks hdo
       by_cases hltj : j < D.length
       ·have hltjz : (j : Int) < D.length := by omega
        have hwj : IntKind.i64.wrap ((j : Int) + 1) = ((j + 1 : Nat) : Int) := by have := HDL.out; rw [IntKind.wrap_i64]; omega
        obtain ⟨pb, po, hua, hpb, hq⟩ := ints_row (Sl.of_own' (enc := encI) (fun _ => rfl) HDJ.out : Ints wr (.slice ua D.length uc) D) j hltj
        subst hua
        have HSJ := hide (onesC_snoc D j hltj)
        generalize D[j] = x at hq HSJ
        have hal : (A ++ onesC (D.take j)).length ≤ 200 := by
         have h1 := HAL.out
         have h2 : (onesC (D.take j)).length ≤ j := by unfold onesC; rw [List.length_map]; exact List.length_take_le _ _
         have h3 := HDL.out
         rw [List.length_append]
         omega
        have hBE : A ++ onesC (D.take (j + 1)) = (A ++ onesC (D.take j)) ++ [[x]] := by rw [HSJ.out, List.append_assoc]
        generalize A ++ onesC (D.take j) = B at HKJ hal hBE ⊢
        have HBE2 := hide hBE
        have hxa : Ext wr (wr.alloc (.cells #[.int .i64 x] 3)) := (Below.refl _ _).alloc (Nat.le_refl _) _
        have HK2 := hide (HKJ.out.to hxa)
        have hlit : (wr.alloc (.cells #[.int .i64 x] 3)).ownsRow w1.heap.size 3 1 (.slice (some ⟨wr.heap.size, 0, none⟩) 1 1) [x].length ([x].flatMap encI) := World.ownsRow_lit (base := w1.heap.size) (e := 3) (size := 1) wr #[.int .i64 x] 1 HKJ.out.ext.size (by unfold maxLen; omega) rfl
        have HLI := hide hlit
        have HDX := hide (owns_ext HDJ.out hxa)
        have hB200 : B.length < 1000000 := by omega
        clear hBE hal hxa hlit
        go_upto_region 14 with (fail)
        refine wp_region_lit ?_
        refine wpList_plain rfl fun Kq hKq => ?_
        go_simp
        refine hKq _ _ ?_
        clear hKq Kq
        refine wpList_plain rfl fun Kq hKq => ?_
        go_simp
        refine hKq _ _ ?_
        clear hKq Kq
        refine wpList_plain rfl fun Kq hKq => ?_
        go_simp
        refine hKq _ _ ?_
        clear hKq Kq
        refine wpList_plain rfl fun Kq hKq => ?_
        go_simp
        refine hKq _ _ ?_
        clear hKq Kq
        refine wpList_plain rfl fun Kq hKq => ?_
        go_simp
        refine hKq _ _ ?_
        clear hKq Kq
        refine wpList_plain rfl fun Kq hKq => ?_
        go_simp
        refine hKq _ _ ?_
        clear hKq Kq
        refine wpList_plain rfl fun Kq hKq => ?_
        go_simp
        refine hKq _ _ ?_
        clear hKq Kq
        clear hq
        refine wpList_app1 rfl (.tmp 48) (.tmp 54) _ 22 rfl Tryz.underlying33 gInfoL (by decide) (by decide) w1.heap.size _ B.length vs2 rfl HK2.out.s [.slice (some ⟨wr.heap.size, 0, none⟩) 1 1] rfl (by simp [Value.oneCell']) (by rw [show (wr.alloc (.cells #[.int .i64 x] 3)).heap.size = wr.heap.size + 1 from Array.size_push ..]; rfl) hB200 HK2.out.ext.size ?_
        intro v' w3 ho3 hk3 hp3
        have hko := HK2.out.addK HLI.out hk3 ho3
        have HDZ := hide (owns_keepT HDX.out hk3 (OfT.own HK2.out.s) (by decide))
        rw [← HBE2.out] at hko
        obtain ⟨za, zc, rfl⟩ := owns_shape hko.s
        have HKZ := hide hko
        clear ho3 hk3 hp3 hko
        refine wpList_plain rfl fun Kq hKq => ?_
        go_simp
        refine hKq _ _ ?_
        clear hKq Kq
        refine wpList_nil ?_
        go_wp2
        go_roundw
        case rel => exact ⟨j + 1, vs2 ++ [.slice (some ⟨wr.heap.size, 0, none⟩) 1 1], hltj, by go_num, by have h := HKZ.out; rw [List.length_append] at h; exact h, HDZ.out⟩
        case measure => simp [intOf] <;> omega
       ·obtain rfl : j = D.length := by omega
        have hltjz : ¬ (D.length : Int) < D.length := by omega
        rw [List.take_length] at HKJ
        rw [List.take_length]
        have HK9 := hide (show KO w1 wr _ vs2 (A ++ onesC D) from HKJ.out)
        go_wp2
        go_roundw
        case rel => exact ⟨k + 1, vs2, hlt, by go_num, by rw [HSN.out, ← List.append_assoc, HAE.out]; exact HK9.out⟩
        case measure => simp [intOf] <;> omega
    ·obtain rfl : k = Ks.length := by omega
     have hltz : ¬ (Ks.length : Int) < Ks.length := by omega
     rw [List.take_length] at HKO
     have HK9 := hide (show KidsO w.heap.size wr (.slice xa (Ks.map (targS c.R) ++ lastG c.R Ks).length xc) (Ks.map (targS c.R) ++ lastG c.R Ks) from ⟨vs, owns_monoG HKO.out.s (by have := HX1.out.size; omega), HKO.out.r.monoG (by have := HX1.out.size; omega)⟩)
     have HZ := hide (HX1.out.trans HKO.out.ext)
     rw [List.take_length]
     go_wp2
     go_ret
     exact ⟨_, rfl, by simpa [List.length_append] using HK9.out, HZ.out⟩
theorem rkids_any (c : ConfD) (id : Int) (w : World) (h : GC w c) :
  Calls Tryz.prog 12 #[.agg (encC c).toArray, .int .i64 id] w fun e w' => ∃ v, e = .returned v ∧ KidsV w.heap.size w' v (kidsG c id) ∧ Ext w w' :=
 (rkids_own c id w h).mono fun _ _ ⟨v, h1, h2, h3⟩ => ⟨v, h1, h2.kids, h3⟩
end Go.Proofs.YtceaeiaoanhlnaaGreatDoor
