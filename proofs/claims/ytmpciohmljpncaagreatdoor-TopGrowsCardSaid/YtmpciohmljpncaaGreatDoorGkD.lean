import Derived.Test.YtmpciohmljpncaaGreatDoorGkC
import Derived.Test.YtmpciohmljpncaaGreatDoorZgc
namespace Go.Proofs.YtmpciohmljpncaaGreatDoor
open Go.ChangeShapes Go.WideShapes Go.ChangeAt Go.RowKit Go.Lib Go.Shelf
theorem targetsG_any (c : ConfD) (p : ByteArray) (w : World) (h : GC w c) (hp : SzB p) :
  Calls Tryz.prog 67 #[.agg (encC c).toArray, .string p] w fun e w' => ∃ v1 v2, e = .returned (.tuple #[v1, v2]) ∧ TS w w' v1 v2 (targS c.R p) (targC c.R p) :=
 targets_any c p w h.r h.rk hp h.mx (chk_R h.chk) fun r hr => Nat.le_trans (chk_parts h.chk hr) (by decide)
theorem ksh_of {w : World} {c : ConfD} (h : GC w c) : KSh c.S := fun s hs => by
 obtain ⟨_, a, cap, e⟩ := (h.k s hs).shape
 exact ⟨a, _, cap, e⟩
theorem findG_any (c : ConfD) (id : Int) (w : World) (h : GC w c) : Calls Tryz.prog 66 #[.agg (encC c).toArray, .int .i64 id] w fun e w' => e = .returned (findS c.S id).val ∧ Ext w w' := find_any c id w h.s (ksh_of h)
/-- a row of rows of numbers: each reads as its list -/
def RowsI (w : World) : List Value → List (List Int) → Prop
 | [], [] => True
 | v :: vs, l :: ls => Ints w v l ∧ RowsI w vs ls
 | _, _ => False
theorem RowsI.ext {w w' : World} (e : Ext w w') : ∀ {vs : List Value} {ls : List (List Int)}, RowsI w vs ls → RowsI w' vs ls
 | [], [], _ => trivial
 | _ :: _, _ :: _, h => ⟨h.1.ext e, RowsI.ext e h.2⟩
 | [], _ :: _, h => h.elim
 | _ :: _, [], h => h.elim
theorem RowsI.snoc {w : World} {v : Value} {l : List Int} (h : Ints w v l) : ∀ {vs : List Value} {ls : List (List Int)}, RowsI w vs ls → RowsI w (vs ++ [v]) (ls ++ [l])
 | [], [], _ => ⟨h, trivial⟩
 | _ :: _, _ :: _, hr => ⟨hr.1, RowsI.snoc h hr.2⟩
 | [], _ :: _, hr => hr.elim
 | _ :: _, [], hr => hr.elim
theorem RowsI.app {w : World} : ∀ {vs us : List Value} {ls ms : List (List Int)}, RowsI w vs ls → RowsI w us ms → RowsI w (vs ++ us) (ls ++ ms)
 | [], _, [], _, _, h => h
 | _ :: _, _, _ :: _, _, hr, h => ⟨hr.1, RowsI.app hr.2 h⟩
 | [], _, _ :: _, _, hr, _ => hr.elim
 | _ :: _, _, [], _, hr, _ => hr.elim
theorem RowsI.len {w : World} : ∀ {vs : List Value} {ls : List (List Int)}, RowsI w vs ls → vs.length = ls.length
 | [], [], _ => rfl
 | _ :: _, _ :: _, h => congrArg (· + 1) (RowsI.len h.2)
 | [], _ :: _, h => h.elim
 | _ :: _, [], h => h.elim
theorem RowsI.at {w : World} : ∀ {vs : List Value} {ls : List (List Int)}, RowsI w vs ls → ∀ (i : Nat) (hi : i < ls.length), ∃ v, vs[i]? = some v ∧ Ints w v ls[i]
 | [], [], _, _, hi => absurd hi (Nat.not_lt_zero _)
 | v :: _, _ :: _, h, 0, _ => ⟨v, rfl, h.1⟩
 | _ :: _, _ :: _, h, i + 1, hi => RowsI.at h.2 i (Nat.lt_of_succ_lt_succ hi)
 | [], _ :: _, h, _, _ => h.elim
 | _ :: _, [], h, _, _ => h.elim
/-- a row that a call made, of rows of numbers -/
def KidsV (B : Nat) (w : World) (v : Value) (K : List (List Int)) : Prop := ∃ vs : List Value, w.ownsRow B 22 1 v K.length vs ∧ RowsI w vs K
theorem KidsV.ext {B : Nat} {w w' : World} {v : Value} {K : List (List Int)} (h : KidsV B w v K) (e : Ext w w') : KidsV B w' v K := by
 obtain ⟨vs, h1, h2⟩ := h
 exact ⟨vs, owns_ext h1 e, h2.ext e⟩
def RowsO (B : Nat) (w : World) : List Value → List (List Int) → Prop
 | [], [] => True
 | v :: vs, l :: ls => w.ownsRow B 3 1 v l.length (l.flatMap encI) ∧ RowsO B w vs ls
 | _, _ => False
theorem RowsO.keepT {B : Nat} {w w' : World} {X : Nat → Prop} {T : TypeId} (k : Keeps X w w') (hX : OfT w X T) (hT : T ≠ 3) : ∀ {vs : List Value} {ls : List (List Int)}, RowsO B w vs ls → RowsO B w' vs ls
 | [], [], _ => trivial
 | _ :: _, _ :: _, h => ⟨owns_keepT h.1 k hX hT, RowsO.keepT k hX hT h.2⟩
 | [], _ :: _, h => h.elim
 | _ :: _, [], h => h.elim
theorem RowsO.to {B : Nat} {w w' : World} (e : Ext w w') : ∀ {vs : List Value} {ls : List (List Int)}, RowsO B w vs ls → RowsO B w' vs ls
 | [], [], _ => trivial
 | _ :: _, _ :: _, h => ⟨owns_ext h.1 e, RowsO.to e h.2⟩
 | [], _ :: _, h => h.elim
 | _ :: _, [], h => h.elim
theorem RowsO.snoc {B : Nat} {w : World} {v : Value} {l : List Int} (h : w.ownsRow B 3 1 v l.length (l.flatMap encI)) : ∀ {vs : List Value} {ls : List (List Int)}, RowsO B w vs ls → RowsO B w (vs ++ [v]) (ls ++ [l])
 | [], [], _ => ⟨h, trivial⟩
 | _ :: _, _ :: _, hr => ⟨hr.1, RowsO.snoc h hr.2⟩
 | [], _ :: _, hr => hr.elim
 | _ :: _, [], hr => hr.elim
theorem RowsO.read {B : Nat} {w : World} : ∀ {vs : List Value} {ls : List (List Int)}, RowsO B w vs ls → RowsI w vs ls
 | [], [], _ => trivial
 | _ :: _, _ :: _, h => ⟨Sl.of_own' (enc := encI) (fun _ => rfl) h.1, RowsO.read h.2⟩
 | [], _ :: _, h => h.elim
 | _ :: _, [], h => h.elim
theorem RowsO.one {B : Nat} {w : World} : ∀ {vs : List Value} {ls : List (List Int)}, RowsO B w vs ls → ∀ v ∈ vs, v.oneCell' = true
 | [], [], _, v, hv => by cases hv
 | u :: us, _ :: _, h, v, hv => by
  rcases List.mem_cons.1 hv with rfl | hv
  ·obtain ⟨a, c, e⟩ := owns_shape h.1
   rw [e]
   rfl
  ·exact RowsO.one h.2 v hv
 | [], _ :: _, h, _, _ => h.elim
 | _ :: _, [], h, _, _ => h.elim
/-- calls and the last ones, while they are listed -/
structure KS (w1 wr : World) (v5 v6 : Value) (vs us : List Value) (A C : List (List Int)) : Prop where
 s : wr.ownsRow w1.heap.size 22 1 v5 A.length vs
 c : wr.ownsRow w1.heap.size 22 1 v6 C.length us
 rs : RowsO w1.heap.size wr vs A
 rc : RowsO w1.heap.size wr us C
 ap : ∀ g, v5.ownBlock = some g → v6.ownBlock ≠ some g
 ext : Ext w1 wr
theorem KS.to {w1 wr w2 : World} {v5 v6 : Value} {vs us : List Value} {A C : List (List Int)} (h : KS w1 wr v5 v6 vs us A C) (e : Ext wr w2) : KS w1 w2 v5 v6 vs us A C := ⟨owns_ext h.s e, owns_ext h.c e, h.rs.to e, h.rc.to e, h.ap, h.ext.trans e⟩
theorem KS.addS {w1 wr w2 : World} {v5 v6 v' v : Value} {vs us : List Value} {A C : List (List Int)} {l : List Int} (h : KS w1 wr v5 v6 vs us A C) (hv : wr.ownsRow w1.heap.size 3 1 v l.length (l.flatMap encI)) (ho : w2.ownsRow w1.heap.size 22 1 v' (A.length + 1) (vs ++ [v])) (k : Keeps (fun q => v5.ownBlock = some q) wr w2) (hp : v'.ownBlock = v5.ownBlock ∨ ∃ g, v'.ownBlock = some g ∧ wr.heap.size ≤ g) : KS w1 w2 v' v6 (vs ++ [v]) us (A ++ [l]) C := by
 have hX := OfT.own h.s
 refine ⟨by simpa using ho, owns_keeps h.c k fun g hg hx => h.ap g hx hg, (h.rs.keepT k hX (by decide)).snoc (owns_keepT hv k hX (by decide)), h.rc.keepT k hX (by decide), fun g hg hc => ?_, Keeps.ext h.ext k fun q hq => (h.s.lt q hq).1⟩
 rcases hp with hp | ⟨g', hp, hl⟩
 ·exact h.ap g (hp.symm.trans hg) hc
 ·rw [hp] at hg
  cases hg
  have := (h.c.lt _ hc).2
  omega
theorem KS.addC {w1 wr w2 : World} {v5 v6 v' v : Value} {vs us : List Value} {A C : List (List Int)} {l : List Int} (h : KS w1 wr v5 v6 vs us A C) (hv : wr.ownsRow w1.heap.size 3 1 v l.length (l.flatMap encI)) (ho : w2.ownsRow w1.heap.size 22 1 v' (C.length + 1) (us ++ [v])) (k : Keeps (fun q => v6.ownBlock = some q) wr w2) (hp : v'.ownBlock = v6.ownBlock ∨ ∃ g, v'.ownBlock = some g ∧ wr.heap.size ≤ g) : KS w1 w2 v5 v' vs (us ++ [v]) A (C ++ [l]) := by
 have hX := OfT.own h.c
 refine ⟨owns_keeps h.s k fun g hg hx => h.ap g hg hx, by simpa using ho, h.rs.keepT k hX (by decide), (h.rc.keepT k hX (by decide)).snoc (owns_keepT hv k hX (by decide)), fun g hg hc => ?_, Keeps.ext h.ext k fun q hq => (h.c.lt q hq).1⟩
 rcases hp with hp | ⟨g', hp, hl⟩
 ·exact h.ap g hg (hp.symm.trans hc)
 ·rw [hp] at hc
  cases hc
  have := (h.s.lt _ hg).2
  omega
theorem gInfoL : (Tryz.prog.info? 22).map (fun i => (i.size, i.bytes, i.zero.map fun z => z.cells.size)) = some (1, 24, some 1) := by kernel_rfl
def onesC (C : List Int) : List (List Int) := C.map fun x => [x]
theorem onesC_snoc (C : List Int) (j : Nat) (hj : j < C.length) : onesC (C.take (j + 1)) = onesC (C.take j) ++ [[C[j]]] := by
 unfold onesC
 rw [take_snoc C j hj, List.map_append]
 rfl
def lastG (R : List RuleD) (K : List ByteArray) : List (List Int) := K.flatMap fun p => onesC (targC R p)
theorem lastG_snoc (R : List RuleD) (K : List ByteArray) (k : Nat) (hk : k < K.length) : lastG R (K.take (k + 1)) = lastG R (K.take k) ++ onesC (targC R K[k]) := by
 unfold lastG
 rw [take_snoc K k hk, List.flatMap_append]
 simp
theorem lastG_len {c : ConfD} (h : chkC c = 0) : ∀ (K : List ByteArray), (lastG c.R K).length ≤ K.length * 20
 | [] => Nat.zero_le _
 | p :: K => by
  have h1 := lastG_len h K
  have h2 := (targ_len h p).2
  show (onesC (targC c.R p) ++ lastG c.R K).length ≤ (K.length + 1) * 20
  rw [List.length_append]
  unfold onesC
  rw [List.length_map]
  omega
theorem kidsG_eq (c : ConfD) (id : Int) : kidsG c id = (findS c.S id).K.map (targS c.R) ++ lastG c.R (findS c.S id).K := rfl
theorem strs_row {w : World} {a : Option Addr} {n cap : Nat} {xs : List ByteArray} (h : Strs w (.slice a n cap) xs) (i : Nat) (hi : i < xs.length) :
  ∃ b off, a = some ⟨b, off, none⟩ ∧ b < w.heap.size ∧ w.cell? ⟨b, off + i, none⟩ = some (.string xs[i]) := by
 obtain ⟨_, a', cap', hv, _, hc⟩ := h
 cases hv
 obtain ⟨b, off, ha, hb, hc⟩ := hc i xs[i] (List.getElem?_eq_getElem hi)
 have := hc 0 _ rfl
 simp only [Nat.mul_one, Nat.add_zero] at this
 exact ⟨b, off, ha, hb, this⟩
theorem ints_row {w : World} {a : Option Addr} {n cap : Nat} {xs : List Int} (h : Ints w (.slice a n cap) xs) (i : Nat) (hi : i < xs.length) :
  ∃ b off, a = some ⟨b, off, none⟩ ∧ b < w.heap.size ∧ w.cell? ⟨b, off + i, none⟩ = some (.int .i64 xs[i]) := by
 obtain ⟨_, a', cap', hv, _, hc⟩ := h
 cases hv
 obtain ⟨b, off, ha, hb, hc⟩ := hc i xs[i] (List.getElem?_eq_getElem hi)
 have := hc 0 _ rfl
 simp only [Nat.mul_one, Nat.add_zero] at this
 exact ⟨b, off, ha, hb, this⟩
set_option maxRecDepth 100000 in
set_option maxHeartbeats 16000000 in
theorem kids_any (c : ConfD) (id : Int) (w : World) (h : GC w c) :
  Calls Tryz.prog 29 #[.agg (encC c).toArray, .int .i64 id] w fun e w' => ∃ v, e = .returned v ∧ KidsV w.heap.size w' v (kidsG c id) ∧ Ext w w' := by
 obtain ⟨cd, hcd1, hcd2⟩ := Tryz.confDesc
 obtain ⟨il, zl, hi0, hi1, hi2, hi3, hi4⟩ := info_partsN gInfoL
 have hx : Ext w (w.alloc (.cells (encC c).toArray 30)) := (Below.refl _ _).alloc (Nat.le_refl _) _
 have hb1 := heap_alloc_new w (.cells (encC c).toArray 30)
 have HG := hide (h.ext hx)
 have HCK := hide h.chk
 have HFI := hide (findG_any c id _ (h.ext hx))
 have HSZ := hide (h.ksz id)
 have HKL := hide (find_kids h.chk id)
 have HST := hide ((h.find id).ext hx)
 clear h
 rw [kidsG_eq]
 generalize findS c.S id = s at *
 obtain ⟨_, ka, kc, hkv⟩ := HST.out.shape
 obtain ⟨sid, skv, K, swork, sslots, squeue, sbal, swarm⟩ := s
 simp only at hkv HST HSZ HKL HFI ⊢
 subst hkv
 go_enter Tryz.func29, Tryz.ntmps29
 go_upto_region 2 with (fail)
 show Code.wp _ _ _ _ (w.alloc (.cells (encC c).toArray 30))
 generalize w.alloc (.cells (encC c).toArray 30) = W at hx hb1 HG HFI HST ⊢
 have HX := hide hx
 obtain ⟨b0, hb0⟩ : ∃ b, w.heap.size = b := ⟨_, rfl⟩
 rw [hb0] at hb1 ⊢
 have HBX := hide (fun X (hX : Ext W X) => (hX.block b0 (Array.getElem?_eq_some_iff.1 hb1).1).trans hb1)
 clear hx
 refine wp_region_lit ?_
 refine wpList_load_mid rfl 30 (.tmp 2) rfl b0 0 rfl (encC c) cd (range_box hb1) hcd1 hcd2 Tryz.confSize ?_
 clear hb1
 refine wpList_plain rfl fun Kq hKq => ?_
 go_simp
 refine hKq _ _ ?_
 refine wpList_plain rfl fun Kq hKq => ?_
 go_simp
 refine HFI.out.mono ?_
 rintro e w1 ⟨rfl, E1⟩
 refine hKq _ _ ?_
 clear hKq Kq HFI
 have HST1 := hide (HST.out.ext E1)
 have HGE := hide (fun (X : World) (hX : Ext w1 X) => HG.out.ext (E1.trans hX))
 have HBE := hide (fun (X : World) (hX : Ext w1 X) => HBX.out X (E1.trans hX))
 have HX1 := hide (HX.out.trans E1)
 have HB0 := hide hb0
 clear HST E1 HG HBX HX hb0
 simp only [SvcD.val]
 refine wpList_plain rfl fun Kq hKq => ?_
 go_simp
 refine hKq _ _ ?_
 refine wpList_plain rfl fun Kq hKq => ?_
 go_simp
 refine hKq _ _ ?_
 refine wpList_plain rfl fun Kq hKq => ?_
 go_simp
 refine hKq _ _ ?_
 refine wpList_nil ?_
 go_wp2_with fail
 go_loopw [5, 6, 18] (fun v5 v6 v18 wr => ∃ (k : Nat) (vs us : List Value), k ≤ K.length ∧ v18 = .int .i64 k ∧ KS w1 wr v5 v6 vs us ((K.take k).map (targS c.R)) (lastG c.R (K.take k))) (fun _ _ k _ => K.length - (intOf k).toNat)
 case atStart => exact ⟨0, [], [], Nat.zero_le _, rfl, World.ownsRow_nil _ _ _ _, World.ownsRow_nil _ _ _ _, trivial, trivial, (fun g hg => by cases hg), Below.refl _ _⟩
 case round =>
  obtain ⟨k, vs, us, hk, rfl, hks⟩ := hrel
  have HKS := hide hks
  obtain ⟨a5, c5, rfl⟩ := owns_shape hks.s
  obtain ⟨a6, c6, rfl⟩ := owns_shape hks.c
  clear hks
  by_cases hlt : k < K.length
  ·have hltz : (k : Int) < K.length := by omega
   have hwk : IntKind.i64.wrap ((k : Int) + 1) = ((k + 1 : Nat) : Int) := by have := HKL.out; rw [IntKind.wrap_i64]; omega
   obtain ⟨sb, so, rfl, hsb, z0⟩ := strs_row (HST1.out.ext HKS.out.ext) k hlt
   have HSN := hide (show (K.take (k + 1)).map (targS c.R) = (K.take k).map (targS c.R) ++ [targS c.R K[k]] by rw [take_snoc K k hlt, List.map_append]; rfl)
   have HCN := hide (lastG_snoc c.R K k hlt)
   have HSK := hide (HSZ.out K[k] (List.getElem_mem hlt))
   have HTL := hide (targ_len HCK.out K[k])
   have HLA := hide (show ((K.take k).map (targS c.R)).length ≤ 4 ∧ (lastG c.R (K.take k)).length ≤ 80 from by
    have h1 := lastG_len HCK.out (K.take k)
    have h2 := List.length_take_le k K
    have h3 := HKL.out
    rw [List.length_map]
    omega)
   generalize K[k] = p at *
   generalize (K.take k).map (targS c.R) = A at *
   generalize lastG c.R (K.take k) = C at *
   go_upto_region 5 with (fail)
   refine wp_region_lit ?_
   refine wpList_load_mid rfl 30 (.tmp 2) rfl b0 0 rfl (encC c) cd (range_box (HBE.out _ HKS.out.ext)) hcd1 hcd2 Tryz.confSize ?_
   refine wpList_plain rfl fun Kq hKq => ?_
   go_simp
   refine hKq _ _ ?_
   refine wpList_plain rfl fun Kq hKq => ?_
   go_simp
   refine (targetsG_any c p _ (HGE.out _ HKS.out.ext) HSK.out).mono ?_
   rintro e w2 ⟨v1, v2, rfl, hts⟩
   refine hKq _ _ ?_
   clear hKq Kq z0
   have HK2 := hide (HKS.out.to hts.ext)
   have hsz := HKS.out.ext.size
   have HS := hide (ownsLe hts.s hsz)
   have HC := hide (ownsLe hts.c hsz)
   clear hts HKS hsz
   obtain ⟨sa, sc, rfl⟩ := owns_shape HS.out
   obtain ⟨ac, cc, rfl⟩ := owns_shape HC.out
   generalize targS c.R p = S at *
   generalize targC c.R p = D at *
   refine wpList_plain rfl fun Kq hKq => ?_
   go_simp
   refine hKq _ _ ?_
   refine wpList_plain rfl fun Kq hKq => ?_
   go_simp
   refine hKq _ _ ?_
   refine wpList_plain rfl fun Kq hKq => ?_
   go_simp
   refine hKq _ _ ?_
   refine wpList_plain rfl fun Kq hKq => ?_
   go_simp
   refine hKq _ _ ?_
   refine wpList_plain rfl fun Kq hKq => ?_
   go_simp
   refine hKq _ _ ?_
   refine wpList_nil ?_
   go_upto_region 6 with (fail)
   refine wp_region_lit ?_
   refine wpList_plain rfl fun Kq hKq => ?_
   go_simp
   refine hKq _ _ ?_
   refine wpList_plain rfl fun Kq hKq => ?_
   go_simp
   refine hKq _ _ ?_
   refine wpList_plain rfl fun Kq hKq => ?_
   go_simp
   refine hKq _ _ ?_
   refine wpList_app1 rfl (.tmp 28) (.tmp 30) _ 22 rfl Tryz.underlying93 gInfoL (by decide) (by decide) w1.heap.size _ A.length vs rfl HK2.out.s [.slice sa S.length sc] rfl (by simp [Value.oneCell']) rfl (by have := HLA.out; omega) HK2.out.ext.size ?_
   intro v' w3 ho3 hk3 hp3
   have HK3 := hide (HK2.out.addS HS.out ho3 hk3 hp3)
   have HC3 := hide (owns_keepT HC.out hk3 (OfT.own HK2.out.s) (by decide))
   clear ho3 hk3 hp3 HK2 HC HS
   obtain ⟨a7, c7, rfl⟩ := owns_shape HK3.out.s
   refine wpList_plain rfl fun Kq hKq => ?_
   go_simp
   refine hKq _ _ ?_
   refine wpList_nil ?_
   go_wp2_with fail
   go_loopw [6, 34] (fun v6 v34 wr => ∃ (j : Nat) (us : List Value), j ≤ D.length ∧ v34 = .int .i64 j ∧ KS w1 wr (.slice a7 (A ++ [S]).length c7) v6 (vs ++ [.slice sa S.length sc]) us (A ++ [S]) (C ++ onesC (D.take j)) ∧ wr.ownsRow w1.heap.size 3 1 (.slice ac D.length cc) D.length (D.flatMap encI)) (fun _ j _ => D.length - (intOf j).toNat)
   case atStart => exact ⟨0, us, Nat.zero_le _, rfl, by simpa [onesC] using HK3.out, HC3.out⟩
   case round =>
    obtain ⟨j, us2, hj, rfl, hks, hdo⟩ := hrel
    have HKS := hide hks
    have HDO := hide hdo
    obtain ⟨a8, c8, rfl⟩ := owns_shape hks.c
    clear hks hdo
    by_cases hltj : j < D.length
    ·have hltjz : (j : Int) < D.length := by omega
     have hwj : IntKind.i64.wrap ((j : Int) + 1) = ((j + 1 : Nat) : Int) := by have := HTL.out.2; rw [IntKind.wrap_i64]; omega
     obtain ⟨pb, po, rfl, hpb, y0⟩ := ints_row (Sl.of_own' (enc := encI) (fun _ => rfl) HDO.out : Ints wr (.slice ac D.length cc) D) j hltj
     have HPS := hide (onesC_snoc D j hltj)
     have HLJ := hide (show (C ++ onesC (D.take j)).length < 1000000 by
      have h1 := List.length_take_le j D
      have h2 := HLA.out
      have h3 := HTL.out.2
      rw [List.length_append]
      unfold onesC
      rw [List.length_map]
      omega)
     generalize D[j] = x at y0 HPS
     generalize onesC (D.take j) = O at *
     generalize hCO : C ++ O = CO at HKS HLJ ⊢
     have HCO := hide hCO
     clear hCO
     go_upto_region 10 with (fail)
     refine wp_region_lit ?_
     refine wpList_plain rfl fun Kq hKq => ?_
     go_simp
     refine hKq _ _ ?_
     refine wpList_plain rfl fun Kq hKq => ?_
     go_simp
     refine hKq _ _ ?_
     refine wpList_plain rfl fun Kq hKq => ?_
     go_simp
     refine hKq _ _ ?_
     have hxa : Ext wr (wr.alloc (.cells #[.int .i64 x] 3)) := (Below.refl _ _).alloc (Nat.le_refl _) _
     have hni : (wr.alloc (.cells #[.int .i64 x] 3)).ownsRow w1.heap.size 3 1 (.slice (some ⟨wr.heap.size, 0, none⟩) [x].length 1) [x].length ([x].flatMap encI) := World.ownsRow_lit wr #[.int .i64 x] 1 HKS.out.ext.size (by unfold maxLen; omega) rfl
     have HNI := hide hni
     have HK4 := hide (HKS.out.to hxa)
     have HD4 := hide (owns_ext HDO.out hxa)
     generalize wr.heap.size = gx at *
     generalize wr.alloc (.cells #[.int .i64 x] 3) = w4 at *
     clear hni hxa y0
     refine wpList_plain rfl fun Kq hKq => ?_
     go_simp
     refine hKq _ _ ?_
     refine wpList_app1 rfl (.tmp 38) (.tmp 41) _ 22 rfl Tryz.underlying93 gInfoL (by decide) (by decide) w1.heap.size _ CO.length us2 rfl HK4.out.c [.slice (some ⟨gx, 0, none⟩) 1 1] rfl (by simp [Value.oneCell']) rfl HLJ.out HK4.out.ext.size ?_
     intro v' w5 ho5 hk5 hp5
     have HK5 := hide (HK4.out.addC HNI.out ho5 hk5 hp5)
     have HD5 := hide (owns_keepT HD4.out hk5 (OfT.own HK4.out.c) (by decide))
     clear ho5 hk5 hp5
     refine wpList_plain rfl fun Kq hKq => ?_
     go_simp
     refine hKq _ _ ?_
     refine wpList_nil ?_
     go_wp2
     go_roundw
     case rel => exact ⟨j + 1, _, hltj, by go_num, by rw [HPS.out, ← List.append_assoc, HCO.out]; exact HK5.out, HD5.out⟩
     case measure => simp [intOf]; omega
    ·obtain rfl : j = D.length := by omega
     have hltjz : ¬ (D.length : Int) < D.length := by omega
     go_wp2
     go_roundw
     case rel => exact ⟨k + 1, _, _, hlt, by go_num, by rw [HSN.out, HCN.out]; have h := HKS.out; simpa using h⟩
     case measure => simp [intOf]; omega
  ·obtain rfl : k = K.length := by omega
   have hltz : ¬ (K.length : Int) < K.length := by omega
   have hks := HKS.out
   rw [List.take_length] at hks
   have HLA := hide (show (K.map (targS c.R)).length ≤ 4 ∧ (lastG c.R K).length ≤ 80 from by
    have h1 := lastG_len HCK.out K
    have h3 := HKL.out
    rw [List.length_map]
    omega)
   have HKE := hide hks
   clear hks HKS hlt
   try rw [List.take_length]
   generalize hA : K.map (targS c.R) = A at HKE HLA ⊢
   generalize hC : lastG c.R K = C at HKE HLA ⊢
   have HA := hide hA
   have HC := hide hC
   clear hA hC
   go_upto_region 13 with (fail)
   refine wp_region_lit ?_
   refine wpList_plain rfl fun Kq hKq => ?_
   go_simp
   refine hKq _ _ ?_
   refine wpList_plain rfl fun Kq hKq => ?_
   go_simp
   refine hKq _ _ ?_
   have hsl : Sl (fun v : Value => [v]) 1 wr (.slice a6 C.length c6) us := by
    have hl : us.length = C.length := by simpa using HKE.out.c.1
    have e : us.flatMap (fun v : Value => [v]) = us := by simp
    have h2 : wr.ownsRow w1.heap.size 22 1 (.slice a6 C.length c6) us.length (us.flatMap fun v : Value => [v]) := by
     rw [e, hl]
     exact HKE.out.c
    exact Sl.of_own' (enc := fun v : Value => [v]) (fun _ => rfl) h2
   have hlu : us.length = C.length := by simpa using HKE.out.c.1
   refine wpList_append_sl (enc := fun v : Value => [v]) rfl _ _ _ rfl w1.heap.size 22 il zl 1 24 Tryz.underlying93 hi0 hi1 hi2 hi3 hi4 (by decide) (fun _ => rfl) (.slice a5 A.length c5) A.length vs rfl HKE.out.s (.slice a6 C.length c6) rfl us hsl (fun x hx u hu => by rw [List.mem_singleton.1 hu]; exact HKE.out.rc.one x hx) (by have := HLA.out; unfold maxLen; omega) (by have := HLA.out; omega) HKE.out.ext.size ?_
   intro v' w2 ho2 hg2
   have hk2 : Keeps (fun q => (Value.slice a5 A.length c5).ownBlock = some q) wr w2 := Keeps.of_grown hg2 fun q h => h
   have HE := hide (HX1.out.trans (Keeps.ext HKE.out.ext hk2 fun q hq => (HKE.out.s.lt q hq).1))
   have hX := OfT.own HKE.out.s
   have HR := hide ((HKE.out.rs.keepT hk2 hX (by decide)).read.app (HKE.out.rc.keepT hk2 hX (by decide)).read)
   have HO := hide (show w2.ownsRow w.heap.size 22 1 v' (A ++ C).length (vs ++ us) from ownsLe (by simpa [hlu] using ho2) HX1.out.size)
   clear ho2 hg2 hk2 hX hsl hlu
   refine wpList_plain rfl fun Kq hKq => ?_
   go_simp
   refine hKq _ _ ?_
   refine wpList_nil ?_
   go_wp2
   go_ret
   rw [HA.out, HC.out]
   exact ⟨_, rfl, ⟨_, HO.out, HR.out⟩, HE.out⟩
end Go.Proofs.YtmpciohmljpncaaGreatDoor
