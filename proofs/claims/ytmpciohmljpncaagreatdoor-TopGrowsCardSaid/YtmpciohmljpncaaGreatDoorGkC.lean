import Derived.Test.YtmpciohmljpncaaGreatDoorZgs
namespace Go.Proofs.YtmpciohmljpncaaGreatDoor
open Go.ChangeShapes Go.WideShapes Go.ChangeAt Go.RowKit Go.Lib Go.Shelf
open Go.Sort
theorem putRow_keeps {w : World} {g q : Nat} {d : Array Int} : Keeps (fun k => k = g) w (putRow (Value.int .i64) (Sort.ahead w q) g 0 d) := by
 refine ⟨rfl, rfl, rfl, by simp [putRow, mapBlock, Sort.ahead], fun k hk hne => ?_⟩
 have : g ≠ k := fun e => hne e.symm
 simp [putRow, mapBlock, Sort.ahead, Array.getElem?_modify, this]
theorem grow_ext (w : World) (os : Array Obj) : Ext w (grow w os) := Rg.below_grow' (Below.refl _ _) (Nat.le_refl _) os (Nat.le_refl _)
/-- slices.Sort of a row of the call's own: nothing else is written -/
theorem sort_keep {w : World} {base : Nat} {v : Value} {n : Nat} {zs : List Int} (h : w.ownsRow base 3 1 v n (zs.flatMap encI)) (hn : n < 4611686018427387904) :
  Calls Tryz.prog 61 #[v] w fun e w' => e = .returned (.tuple #[]) ∧ w'.ownsRow base 3 1 v n ((Rg.srtI zs).flatMap encI) ∧ Keeps (fun q => v.ownBlock = some q) w w' := by
 rw [Rg.flat_encI] at h
 by_cases hv : v = .slice none 0 0
 ·subst hv
  have hn0 : n = 0 := by
   rcases h.2 with ⟨_, h0⟩ | ⟨g, cap, cur, e, _⟩
   ·exact h0
   ·cases e
  subst hn0
  have hz : zs = [] := by have := h.1; simpa using this
  subst hz
  refine (Any.slices_Sort_int_none Tryz.l189 none 0 w).mono ?_
  rintro e w' ⟨rfl, rfl⟩
  exact ⟨rfl, by simpa [Rg.srtI] using h, Keeps.refl _ _⟩
 ·obtain ⟨g, cap, rfl, hbg, hg, hnc, hcm, hzl, hH⟩ := Go.Lib.holds_of_ownsRow h hv
  subst hzl
  refine (Any.slices_Sort_int Tryz.l189 g 0 cap zs w hH hg hn).mono ?_
  rintro e w' ⟨rfl, q, os, rfl⟩
  have hs : (Rg.srtI zs).length = zs.length := (Rg.srtI_perm zs).length_eq
  have h2 := Go.Lib.ownsRow_putRow (q := q) (k := zs.length) (ys := Rg.srtI zs) h hs (Nat.le_refl _)
  have h3 := Rg.own_grow h2 os
  rw [List.take_of_length_le (by omega)] at h3
  refine ⟨rfl, by rw [Rg.flat_encI]; exact h3, ?_⟩
  exact (putRow_keeps.mono fun k hk => by rw [hk]; rfl).trans (Keeps.of_ext (grow_ext _ os))
/-- slices.Compact, likewise -/
theorem compact_keep {w : World} {base : Nat} {v : Value} {n : Nat} {zs : List Int} (h : w.ownsRow base 3 1 v n (zs.flatMap encI)) (hn : n < 4611686018427387904) :
  Calls Tryz.prog 135 #[v] w fun e w' => ∃ v', e = .returned v' ∧ w'.ownsRow base 3 1 v' (Go.Lib.compact zs).length ((Go.Lib.compact zs).flatMap encI) ∧ v'.ownBlock = v.ownBlock ∧ Keeps (fun q => v.ownBlock = some q) w w' := by
 rw [Rg.flat_encI] at h
 by_cases hv : v = .slice none 0 0
 ·subst hv
  have hn0 : n = 0 := by
   rcases h.2 with ⟨_, h0⟩ | ⟨g, cap, cur, e, _⟩
   ·exact h0
   ·cases e
  subst hn0
  have hz : zs = [] := by have := h.1; simpa using this
  subst hz
  refine (Any.slices_Compact_int_empty Tryz.l220 none 0 w).mono ?_
  rintro e w' ⟨rfl, rfl⟩
  exact ⟨_, rfl, by simpa [Go.Lib.compact, Go.Lib.compactUpTo] using h, rfl, Keeps.refl _ _⟩
 ·obtain ⟨g, cap, rfl, hbg, hg, hnc, hcm, hzl, hH⟩ := Go.Lib.holds_of_ownsRow h hv
  subst hzl
  refine (Any.slices_Compact_int Tryz.l220 g 0 cap zs w hH (by omega) hnc).mono ?_
  rintro e w' ⟨rfl, q, rfl⟩
  have hle := Go.Lib.compact_length_le zs
  have h2 := Go.Lib.ownsRow_putRow (q := q) (k := (Go.Lib.compact zs).length) (ys := Go.Lib.compact zs ++ List.replicate (zs.length - (Go.Lib.compact zs).length) 0) h (by simp; omega) hle
  rw [List.take_left'] at h2
  ·exact ⟨_, rfl, by rw [Rg.flat_encI]; exact h2, rfl, putRow_keeps.mono fun k hk => by rw [hk]; rfl⟩
  ·rfl
/-- the two rows of targets while they are made, in blocks from w1 on -/
structure TS (w1 wr : World) (v4 v5 : Value) (A C : List Int) : Prop where
 s : wr.ownsRow w1.heap.size 3 1 v4 A.length (A.flatMap encI)
 c : wr.ownsRow w1.heap.size 3 1 v5 C.length (C.flatMap encI)
 ap : ∀ g, v4.ownBlock = some g → v5.ownBlock ≠ some g
 ext : Ext w1 wr
theorem TS.to {w1 wr w2 : World} {v4 v5 : Value} {A C : List Int} (h : TS w1 wr v4 v5 A C) (e : Ext wr w2) : TS w1 w2 v4 v5 A C := ⟨owns_ext h.s e, owns_ext h.c e, h.ap, h.ext.trans e⟩
theorem TS.addS {w1 wr w2 : World} {v4 v5 v' : Value} {A C : List Int} {x : Int} (h : TS w1 wr v4 v5 A C) (ho : w2.ownsRow w1.heap.size 3 1 v' (A.length + 1) (A.flatMap encI ++ [.int .i64 x])) (k : Keeps (fun q => v4.ownBlock = some q) wr w2) (hp : v'.ownBlock = v4.ownBlock ∨ ∃ g, v'.ownBlock = some g ∧ wr.heap.size ≤ g) : TS w1 w2 v' v5 (A ++ [x]) C := by
 refine ⟨by simpa [encI] using ho, owns_keeps h.c k fun g hg hx => h.ap g hx hg, fun g hg hc => ?_, Keeps.ext h.ext k fun q hq => (h.s.lt q hq).1⟩
 rcases hp with hp | ⟨g', hp, hl⟩
 ·exact h.ap g (hp.symm.trans hg) hc
 ·rw [hp] at hg
  cases hg
  have := (h.c.lt _ hc).2
  omega
theorem TS.addC {w1 wr w2 : World} {v4 v5 v' : Value} {A C : List Int} {x : Int} (h : TS w1 wr v4 v5 A C) (ho : w2.ownsRow w1.heap.size 3 1 v' (C.length + 1) (C.flatMap encI ++ [.int .i64 x])) (k : Keeps (fun q => v5.ownBlock = some q) wr w2) (hp : v'.ownBlock = v5.ownBlock ∨ ∃ g, v'.ownBlock = some g ∧ wr.heap.size ≤ g) : TS w1 w2 v4 v' A (C ++ [x]) := by
 refine ⟨owns_keeps h.s k fun g hg hx => h.ap g hg hx, by simpa [encI] using ho, fun g hg hc => ?_, Keeps.ext h.ext k fun q hq => (h.c.lt q hq).1⟩
 rcases hp with hp | ⟨g', hp, hl⟩
 ·exact h.ap g hg (hp.symm.trans hc)
 ·rw [hp] at hc
  cases hc
  have := (h.s.lt _ hg).2
  omega
theorem ownsLe {w : World} {B B' : Nat} {e : TypeId} {size n : Nat} {v : Value} {xs : List Value} (h : w.ownsRow B e size v n xs) (hB : B' ≤ B) : w.ownsRow B' e size v n xs := by
 obtain ⟨h1, h2⟩ := h
 refine ⟨h1, ?_⟩
 rcases h2 with h2 | ⟨g, cap, cur, hv, hg, r⟩
 ·exact .inl h2
 ·exact .inr ⟨g, cap, cur, hv, Nat.le_trans hB hg, r⟩
def prtS (P : List (Int × Int)) : List Int := (P.filter fun q => decide (0 < q.2)).map (·.1)
theorem prtS_snoc (P : List (Int × Int)) (j : Nat) (hj : j < P.length) : prtS (P.take (j + 1)) = prtS (P.take j) ++ if 0 < P[j].2 then [P[j].1] else [] := by
 unfold prtS
 rw [take_snoc P j hj, List.filter_append, List.map_append]
 congr 1
 simp only [List.filter_cons, List.filter_nil, decide_eq_true_eq]
 split <;> rfl
theorem prtS_len (P : List (Int × Int)) : (prtS P).length ≤ P.length := by
 unfold prtS
 rw [List.length_map]
 exact List.length_filter_le _ _
theorem svcsOf_snoc (R : List RuleD) (k : Nat) (hk : k < R.length) : svcsOf (R.take (k + 1)) = svcsOf (R.take k) ++ prtS R[k].P := by
 unfold svcsOf
 rw [take_snoc R k hk, List.flatMap_append]
 simp [prtS]
theorem copiesOf_snoc (R : List RuleD) (k : Nat) (hk : k < R.length) : copiesOf (R.take (k + 1)) = copiesOf (R.take k) ++ if R[k].mi ≠ 0 then [R[k].mi] else [] := by
 unfold copiesOf
 rw [take_snoc R k hk, List.filter_append, List.map_append]
 congr 1
 simp only [List.filter_cons, List.filter_nil, decide_eq_true_eq]
 split <;> rfl
theorem svcsOf_len : ∀ (R : List RuleD), (∀ r ∈ R, r.P.length ≤ 1000) → (svcsOf R).length ≤ R.length * 1000
 | [], _ => Nat.zero_le _
 | r :: R, h => by
  have h1 := svcsOf_len R fun x hx => h x (List.mem_cons_of_mem _ hx)
  have h2 := Nat.le_trans (prtS_len r.P) (h r (List.mem_cons_self ..))
  show (prtS r.P ++ svcsOf R).length ≤ (R.length + 1) * 1000
  rw [List.length_append]
  omega
theorem copiesOf_len (R : List RuleD) : (copiesOf R).length ≤ R.length := by
 unfold copiesOf
 rw [List.length_map]
 exact List.length_filter_le _ _
theorem Tryz.partSize : (Tryz.prog.info? 60).map (·.size) = some 2 := by kernel_rfl
theorem allocP (w : World) : (Instr.alloc 60 true (.tuple #[])).run Tryz.prog w = .ok (.pointer (some ⟨w.heap.size, 0, none⟩)) (w.alloc (.cells #[.int .i64 0, .int .i64 0] 60)) := by kernel_rfl
theorem parts_row {w : World} {a : Option Addr} {n cap : Nat} {xs : List (Int × Int)} (h : Parts w (.slice a n cap) xs) (i : Nat) (hi : i < xs.length) :
  ∃ b off, a = some ⟨b, off, none⟩ ∧ b < w.heap.size ∧ w.cell? ⟨b, off + i * 2, none⟩ = some (.int .i64 xs[i].1) ∧ w.cell? ⟨b, off + i * 2 + 1, none⟩ = some (.int .i64 xs[i].2) := parts_at h i hi
theorem targ_mem {R : List RuleD} {p : ByteArray} {r : RuleD} (h : r ∈ onR R p) : r ∈ R := (List.mem_filter.1 h).1
set_option maxRecDepth 100000 in
set_option maxHeartbeats 16000000 in
theorem targets_any (c : ConfD) (p : ByteArray) (w : World) (hr : Rules w c.rv c.R) (hok : ∀ r ∈ c.R, RuleOk w r) (hp : SzB p) (hm : MaxV w) (hl : c.R.length ≤ 20) (hP : ∀ r ∈ c.R, r.P.length ≤ 1000) :
  Calls Tryz.prog 67 #[c.val, .string p] w fun e w' => ∃ v1 v2, e = .returned (.tuple #[v1, v2]) ∧ TS w w' v1 v2 (targS c.R p) (targC c.R p) := by
 obtain ⟨dd, hd1, hd2⟩ := Tryz.ruleDesc
 obtain ⟨cd, hcd1, hcd2⟩ := Tryz.confDesc
 have hx : Ext w (w.alloc (.cells (encC c).toArray 30)) := (Below.refl _ _).alloc (Nat.le_refl _) _
 have hb1 := heap_alloc_new w (.cells (encC c).toArray 30)
 have hru := rules33_any c p _ (hr.ext hx) (fun r h => (hok r h).ext hx) hp (hm.ext hx) (by omega)
 have HRU := hide hru
 have HOK := hide (fun r (h : r ∈ onR c.R p) => (hok r (targ_mem h)).ext hx)
 have HPL := hide (fun r (h : r ∈ onR c.R p) => hP r (targ_mem h))
 have HLR := hide (Nat.le_trans (onR_len c.R p) hl)
 clear hr hok hp hm hl hP hru
 unfold targS targC Rg.ends
 generalize onR c.R p = R at *
 show Calls Tryz.prog 67 #[.agg (encC c).toArray, .string p] w _
 go_enter Tryz.func67, Tryz.ntmps67
 go_upto_region 1 with (fail)
 show Code.wp _ _ _ _ (w.alloc (.cells (encC c).toArray 30))
 generalize w.alloc (.cells (encC c).toArray 30) = W at hx hb1 HRU HOK ⊢
 have HX := hide hx
 clear hx
 refine wp_region_lit ?_
 refine wpList_load_mid rfl 30 (.tmp 2) rfl w.heap.size 0 rfl (encC c) cd (range_box hb1) hcd1 hcd2 Tryz.confSize ?_
 clear hb1
 refine wpList_plain rfl fun Kq hKq => ?_
 go_simp
 refine hKq _ _ ?_
 refine wpList_plain rfl fun Kq hKq => ?_
 go_simp
 refine HRU.out.mono ?_
 rintro e w1 ⟨v12, rfl, hown, E1⟩
 refine hKq _ _ ?_
 clear hKq Kq HRU
 obtain ⟨xa, xc, rfl⟩ := owns_shape hown
 have HRS := hide (Sl.of_own' encR_len hown : Rules w1 (.slice xa R.length xc) R)
 have HOK1 := hide (fun r (h : r ∈ R) => (HOK.out r h).ext E1)
 have HX1 := hide (HX.out.trans E1)
 clear HOK hown E1 HX
 refine wpList_plain rfl fun Kq hKq => ?_
 go_simp
 refine hKq _ _ ?_
 refine wpList_plain rfl fun Kq hKq => ?_
 go_simp
 refine hKq _ _ ?_
 refine wpList_nil ?_
 go_wp2_with fail
 go_loopw [4, 5, 14] (fun v4 v5 v14 wr => ∃ k : Nat, k ≤ R.length ∧ v14 = .int .i64 k ∧ TS w1 wr v4 v5 (svcsOf (R.take k)) (copiesOf (R.take k))) (fun _ _ k _ => R.length - (intOf k).toNat)
 case atStart => exact ⟨0, Nat.zero_le _, rfl, World.ownsRow_nil _ _ _ _, World.ownsRow_nil _ _ _ _, (fun g hg => by cases hg), Below.refl _ _⟩
 case round =>
  obtain ⟨k, hk, rfl, hts⟩ := hrel
  have HTS := hide hts
  clear hts
  by_cases hlt : k < R.length
  ·have hltz : (k : Int) < R.length := by omega
   have hwk : IntKind.i64.wrap ((k : Int) + 1) = ((k + 1 : Nat) : Int) := by have := HLR.out; rw [IntKind.wrap_i64]; omega
   have hokr := (HOK1.out R[k] (List.getElem_mem hlt)).ext HTS.out.ext
   have hp1 := (HOK1.out R[k] (List.getElem_mem hlt)).2.1
   have hsn := svcsOf_snoc R k hlt
   have hcn := copiesOf_snoc R k hlt
   have hpl := HPL.out R[k] (List.getElem_mem hlt)
   have hl1 := Nat.le_trans (svcsOf_len (R.take k) fun r h => HPL.out r (List.mem_of_mem_take h)) (Nat.mul_le_mul_right 1000 (List.length_take_le k R))
   have hl2 := Nat.le_trans (copiesOf_len (R.take k)) (List.length_take_le k R)
   have HLA := hide (show (svcsOf (R.take k)).length ≤ 20000 ∧ (copiesOf (R.take k)).length ≤ 20 from by have := HLR.out; omega)
   obtain ⟨b, off, rfl, hbb, hrg⟩ := rule_row (HRS.out.ext HTS.out.ext) k hlt
   generalize R[k] = r at hokr hp1 hsn hcn hpl hrg
   have HONE := hide (encR_one' r hokr)
   have HPAR := hide hp1
   have HSN := hide hsn
   have HCN := hide hcn
   have HPL1 := hide hpl
   obtain ⟨_, ap, cp, hvp⟩ := hokr.2.1.shape
   clear hl1 hl2 hsn hcn hpl hokr hp1
   generalize svcsOf (R.take k) = A at *
   generalize copiesOf (R.take k) = C at *
   go_upto_region 3 with (fail)
   refine wp_region_lit ?_
   refine wpList_plain rfl fun Kq hKq => ?_
   go_simp
   refine hKq _ _ ?_
   refine wpList_load_mid rfl 57 (.tmp 16) rfl b (off + k * 19) rfl (encR r) dd hrg hd1 hd2 Tryz.ruleSize ?_
   refine wpList_box rfl 57 rfl rfl (.tmp 7) (.tmp 17) rfl (encR r) _ allocR rfl rfl rfl Tryz.ruleSize HONE.out fun w2 hb2 E2 => ?_
   refine wpList_nil ?_
   simp only [Act.put, List.setIfInBounds_toArray, List.set_cons_succ, List.set_cons_zero]
   have hHg : wr.heap.size < w2.heap.size := (Array.getElem?_eq_some_iff.1 hb2).1
   obtain ⟨g, hg⟩ : ∃ g, wr.heap.size = g := ⟨_, rfl⟩
   rw [hg] at hb2 hHg ⊢
   have d3 : w2.cell? ⟨g, 3, none⟩ = some (.slice ap r.P.length cp) := by rw [← hvp]; exact cell_box hb2 3 _ rfl
   have HPA := hide (show Parts w1 (.slice ap r.P.length cp) r.P by rw [← hvp]; exact HPAR.out)
   have HT2 := hide (HTS.out.to E2)
   have HB2 := hide hb2
   clear hb2 E2 hrg hg hvp HTS HPAR hHg
   have hmi : ∀ X : World, X.heap[g]? = some (.cells (encR r).toArray 57 (0, 0)) → X.cell? ⟨g, 4, none⟩ = some (.int .i64 r.mi) := fun X h => cell_box h 4 _ rfl
   obtain ⟨P, hPe⟩ : ∃ P, r.P = P := ⟨_, rfl⟩
   rw [hPe] at d3 HPA HSN HPL1
   obtain ⟨mi, hme⟩ : ∃ m, r.mi = m := ⟨_, rfl⟩
   rw [hme] at HCN
   simp only [hme] at hmi
   have HMI := hide hmi
   clear hPe hme hmi
   obtain ⟨a4, c4, rfl⟩ := owns_shape HT2.out.s
   obtain ⟨a5, c5, rfl⟩ := owns_shape HT2.out.c
   go_wp2_with fail
   clear d3
   go_loopw [4, 21] (fun v4 v21 wr => ∃ j : Nat, j ≤ P.length ∧ v21 = .int .i64 j ∧ TS w1 wr v4 (.slice a5 C.length c5) (A ++ prtS (P.take j)) C ∧ wr.heap[g]? = some (.cells (encR r).toArray 57 (0, 0))) (fun _ j _ => P.length - (intOf j).toNat)
   case atStart => exact ⟨0, Nat.zero_le _, rfl, by simpa [prtS] using HT2.out, HB2.out⟩
   case round =>
    obtain ⟨j, hj, rfl, hts, hbg⟩ := hrel
    have HTS := hide hts
    have HBG := hide hbg
    clear hts hbg
    by_cases hltj : j < P.length
    ·have hltjz : (j : Int) < P.length := by omega
     have hwj : IntKind.i64.wrap ((j : Int) + 1) = ((j + 1 : Nat) : Int) := by have := HPL1.out; rw [IntKind.wrap_i64]; omega
     obtain ⟨pb, po, rfl, hpb, z0, z1⟩ := parts_row (HPA.out.ext HTS.out.ext) j hltj
     have hps := prtS_snoc P j hltj
     have hla := Nat.le_trans (prtS_len (P.take j)) (List.length_take_le j P)
     have HPS := hide hps
     have HLJ := hide (show (A ++ prtS (P.take j)).length < 1000000 by rw [List.length_append]; have := HLA.out; have := HPL1.out; omega)
     clear hps hla
     generalize P[j] = x at z0 z1 HPS
     obtain ⟨xs, xw⟩ := x
     generalize prtS (P.take j) = D at *
     generalize hAD : A ++ D = AD at HTS HLJ ⊢
     have HAD := hide hAD
     clear hAD
     obtain ⟨a6, c6, rfl⟩ := owns_shape HTS.out.s
     go_upto_region 6 with (fail)
     refine wp_region_lit ?_
     refine wpList_plain rfl fun Kq hKq => ?_
     go_simp
     refine hKq _ _ ?_
     refine wpList_plain rfl fun Kq hKq => ?_
     go_simp
     refine hKq _ _ ?_
     refine wpList_box rfl 60 rfl rfl (.tmp 9) (.tmp 24) rfl [.int .i64 xs, .int .i64 xw] _ allocP rfl rfl rfl Tryz.partSize (by simp [Value.oneCell']) fun w3 hb3 E3 => ?_
     refine wpList_nil ?_
     simp only [Act.put, List.setIfInBounds_toArray, List.set_cons_succ, List.set_cons_zero]
     have HB3 := hide ((E3.block g (Array.getElem?_eq_some_iff.1 HBG.out).1).trans HBG.out)
     obtain ⟨g3, hg3⟩ : ∃ g, wr.heap.size = g := ⟨_, rfl⟩
     rw [hg3] at hb3 ⊢
     have y0 : w3.cell? ⟨g3, 0, none⟩ = some (.int .i64 xs) := cell_box hb3 0 _ rfl
     have y1 : w3.cell? ⟨g3, 1, none⟩ = some (.int .i64 xw) := cell_box hb3 1 _ rfl
     have HT3 := hide (HTS.out.to E3)
     clear z0 z1 hb3 E3 hg3 HTS HBG
     by_cases hxw : 0 < xw
     ·have hs := HPS.out
      simp only [hxw, if_true] at hs
      have HS := hide hs
      clear hs
      have hgt : xw > 0 := hxw
      go_upto_region 8 with (fail)
      refine wp_region_lit ?_
      refine wpList_plain rfl fun Kq hKq => ?_
      go_simp
      refine hKq _ _ ?_
      refine wpList_plain rfl fun Kq hKq => ?_
      go_simp
      refine hKq _ _ ?_
      refine wpList_plain rfl fun Kq hKq => ?_
      go_simp
      refine hKq _ _ ?_
      refine wpList_plain rfl fun Kq hKq => ?_
      go_simp
      refine hKq _ _ ?_
      refine wpList_app1 rfl (.tmp 28) (.tmp 31) _ 3 rfl Tryz.underlying22 gInfoI (by decide) (by decide) w1.heap.size _ AD.length (AD.flatMap encI) rfl HT3.out.s [.int .i64 xs] rfl (by simp [Value.oneCell']) rfl HLJ.out HT3.out.ext.size ?_
      intro v' w4 ho4 hk4 hp4
      have HT4 := hide (HT3.out.addS ho4 hk4 hp4)
      have HB4 := hide ((hk4.block g (Array.getElem?_eq_some_iff.1 HB3.out).1 (fun e => absurd (owns_type HT3.out.s e HB3.out) (by decide))).trans HB3.out)
      clear ho4 hk4 hp4 y0 y1
      refine wpList_plain rfl fun Kq hKq => ?_
      go_simp
      refine hKq _ _ ?_
      refine wpList_nil ?_
      go_wp2
      go_roundw
      case rel => exact ⟨j + 1, hltj, by go_num, by rw [HS.out, ← List.append_assoc, HAD.out]; exact HT4.out, HB4.out⟩
      case measure => simp [intOf]; omega
     ·have hs := HPS.out
      simp only [hxw, if_false, List.append_nil] at hs
      have HS := hide hs
      clear hs
      have hgt : ¬ xw > 0 := hxw
      go_wp2
      go_roundw
      case rel => exact ⟨j + 1, hltj, by go_num, by rw [HS.out, HAD.out]; exact HT3.out, HB3.out⟩
      case measure => simp [intOf]; omega
    ·obtain rfl : j = P.length := by omega
     have hltjz : ¬ (P.length : Int) < P.length := by omega
     have hts := HTS.out
     rw [List.take_length] at hts
     have hps : prtS P = prtS P := rfl
     have hx4 : wr.cell? ⟨g, 4, none⟩ = some (.int .i64 mi) := HMI.out _ HBG.out
     have hlen : (A ++ prtS P).length ≤ 40000 := by rw [List.length_append]; have := HLA.out; have := prtS_len P; have := HPL1.out; omega
     rw [← HSN.out] at hts
     have HT := hide hts
     clear hts HTS HT2 HB2 HPA hps hltj hlen
     generalize hA2 : svcsOf (R.take (k + 1)) = A2 at HT ⊢
     have HA2 := hide hA2
     clear hA2
     obtain ⟨a6, c6, rfl⟩ := owns_shape HT.out.s
     by_cases hm0 : mi = 0
     ·have hs := HCN.out
      simp only [hm0, ne_eq, not_true_eq_false, if_false, List.append_nil] at hs
      have HC := hide hs
      have hne : (mi != 0) = false := by simp [hm0]
      clear hs
      go_wp2
      go_roundw
      case rel => exact ⟨k + 1, hlt, by go_num, by rw [HC.out, HA2.out]; exact HT.out⟩
      case measure => simp [intOf]; omega
     ·have hs := HCN.out
      rw [if_pos hm0] at hs
      have HC := hide hs
      have hne : (mi != 0) = true := by simp [hm0]
      have HLC := hide (show C.length < 1000000 by have := HLA.out; omega)
      clear hs
      go_upto_region 11 with (fail)
      refine wp_region_lit ?_
      refine wpList_plain rfl fun Kq hKq => ?_
      go_simp
      refine hKq _ _ ?_
      refine wpList_plain rfl fun Kq hKq => ?_
      go_simp
      refine hKq _ _ ?_
      refine wpList_plain rfl fun Kq hKq => ?_
      go_simp
      refine hKq _ _ ?_
      refine wpList_plain rfl fun Kq hKq => ?_
      go_simp
      refine hKq _ _ ?_
      refine wpList_app1 rfl (.tmp 37) (.tmp 40) _ 3 rfl Tryz.underlying22 gInfoI (by decide) (by decide) w1.heap.size _ C.length (C.flatMap encI) rfl HT.out.c [.int .i64 mi] rfl (by simp [Value.oneCell']) rfl HLC.out HT.out.ext.size ?_
      intro v' w4 ho4 hk4 hp4
      have HT4 := hide (HT.out.addC ho4 hk4 hp4)
      clear ho4 hk4 hp4 hx4
      refine wpList_plain rfl fun Kq hKq => ?_
      go_simp
      refine hKq _ _ ?_
      refine wpList_nil ?_
      go_wp2
      go_roundw
      case rel => exact ⟨k + 1, hlt, by go_num, by rw [HC.out, HA2.out]; exact HT4.out⟩
      case measure => simp [intOf]; omega
  ·obtain rfl : k = R.length := by omega
   have hltz : ¬ (R.length : Int) < R.length := by omega
   have hts := HTS.out
   rw [List.take_length] at hts
   have hl1 := svcsOf_len R HPL.out
   have hl2 := copiesOf_len R
   have HLA := hide (show (svcsOf R).length ≤ 20000 from by have := HLR.out; omega)
   clear HTS hl1 hl2 hlt
   generalize hA : svcsOf R = A at hts HLA
   generalize hC : copiesOf R = C at hts
   have HA := hide hA
   have HC := hide hC
   clear hA hC
   obtain ⟨a4, c4, rfl⟩ := owns_shape hts.s
   obtain ⟨a5, c5, rfl⟩ := owns_shape hts.c
   have HT := hide hts
   clear hts
   go_wp2_with fail
   refine (sort_keep HT.out.s (by have := HLA.out; omega)).mono ?_
   rintro e w2 ⟨rfl, ho2, hk2⟩
   have HT2 := hide (show TS w1 w2 (.slice a4 A.length c4) (.slice a5 C.length c5) (Rg.srtI A) C from ⟨by rw [(Rg.srtI_perm A).length_eq]; exact ho2, owns_keeps HT.out.c hk2 fun g hg hx => HT.out.ap g hx hg, HT.out.ap, Keeps.ext HT.out.ext hk2 fun q hq => (HT.out.s.lt q hq).1⟩)
   clear ho2 hk2
   have hlS : (Rg.srtI A).length = A.length := (Rg.srtI_perm A).length_eq
   have hs2 := HT2.out.s
   rw [hlS] at hs2
   have HS2 := hide hs2
   clear hs2 hlS
   go_wp2_with fail
   refine (compact_keep HS2.out (by have := HLA.out; omega)).mono ?_
   rintro e w3 ⟨v', rfl, ho3, hv3, hk3⟩
   obtain ⟨a6, c6, rfl⟩ := owns_shape ho3
   have HT3 := hide (show TS w1 w3 _ (.slice a5 C.length c5) (Go.Lib.compact (Rg.srtI A)) C from ⟨ho3, owns_keeps HT2.out.c hk3 fun g hg hx => HT2.out.ap g hx hg, fun g hg => HT2.out.ap g (hv3.symm.trans hg), Keeps.ext HT2.out.ext hk3 fun q hq => (HS2.out.lt q hq).1⟩)
   clear ho3 hv3 hk3 HT2 HS2 HT
   generalize hZ : Go.Lib.compact (Rg.srtI A) = Z at HT3 ⊢
   have HZ := hide hZ
   clear hZ
   go_wp2
   go_ret2
   rw [HA.out, HC.out, HZ.out]
   exact ⟨_, _, rfl, ownsLe HT3.out.s HX1.out.size, ownsLe HT3.out.c HX1.out.size, HT3.out.ap, HX1.out.trans HT3.out.ext⟩
end Go.Proofs.YtmpciohmljpncaaGreatDoor
