import Derived.Test.YtceaeiaoanhlnaaGreatDoorZgte
namespace Go.Proofs.YtceaeiaoanhlnaaGreatDoor
open Go.ChangeShapes Go.WideShapes Go.ChangeAt Go.RowKit Go.Lib Go.Shelf Go.Maps
/-- the first ones of a list turned -/
def partI {α : Type} (f : Nat → α → α) (l : List α) (k : Nat) : List α := l.mapIdx fun j x => if j < k then f j x else x
section
variable {α : Type} (f : Nat → α → α) (l : List α)
theorem partI_zero : partI f l 0 = l := by
 apply List.ext_getElem?
 intro i
 simp [partI]
theorem partI_len (k : Nat) : (partI f l k).length = l.length := by simp [partI]
theorem partI_all : partI f l l.length = l.mapIdx f := by
 apply List.ext_getElem?
 intro i
 simp only [partI, List.getElem?_mapIdx]
 by_cases h : i < l.length
 ·rw [List.getElem?_eq_getElem h]; simp [h]
 ·rw [List.getElem?_eq_none (by omega)]; rfl
theorem partI_at {k : Nat} (h : k < l.length) : (partI f l k)[k]'(by rw [partI_len]; exact h) = l[k] := by simp [partI]
theorem partI_next {k : Nat} (h : k < l.length) : (partI f l k).set k (f k l[k]) = partI f l (k + 1) := by
 apply List.ext_getElem?
 intro i
 rw [List.getElem?_set]
 simp only [partI, List.getElem?_mapIdx, List.length_mapIdx]
 by_cases hik : k = i
 ·subst hik
  simp [h]
 ·rw [if_neg hik]
  by_cases h1 : i < l.length
  ·rw [List.getElem?_eq_getElem h1]
   have : (i < k) = (i < k + 1) := by apply propext; omega
   simp [this]
  ·rw [List.getElem?_eq_none (by omega)]; rfl
theorem set_self {k : Nat} (L : List α) (h : k < L.length) : L.set k L[k] = L := by simp
end
section
variable {w0 w : World} {b2 b5 : Nat} {c : ConfD}
theorem CS.rowCell {T : TypeId} {g : Nat} (h : CS w0 w b2 b5 c) (o : Nat) (u : Value) (c' : ConfD) (ho : OwnC w0.heap.size (w.setCell ⟨g, o, none⟩ u) b5 c') (hg : w0.heap.size ≤ g) (hof : OfT w (fun q => q = g) T) (hT : T ≠ 30) : CS w0 (w.setCell ⟨g, o, none⟩ u) b2 b5 c' := by
 have hks := Keeps.of_set (X := fun q => q = g) w g o u rfl
 obtain ⟨cs, h1, h2⟩ := h.bx2
 have hn : ¬ b2 = g := fun e => by
  obtain ⟨cs', f, e1⟩ := hof b2 e
  rw [h1] at e1
  cases e1
  exact hT rfl
 exact ⟨Keeps.ext h.ext hks (fun q hq => by rw [hq]; exact hg), ho.box, ho.own, ⟨cs, (hks.block _ (Array.getElem?_eq_some_iff.1 h1).1 hn).trans h1, h2⟩, h.ge5, h.ge2, h.ne⟩
theorem CS.setSk {L : List SvcD} {k : Nat} {x : SvcD} {g cap n : Nat} (h : CS w0 w b2 b5 { c with S := L.set k x }) (hv : c.sv = .slice (some ⟨g, 0, none⟩) n cap) (hn : L.length = n) (hk : k < L.length) (hg : w0.heap.size ≤ g) (j : Nat) (hj : j < 7) (u : Value) (x' : SvcD) (he : encV x' = (encV x).set j u) (hkk : x'.kv = x.kv ∧ x'.K = x.K ∨ x'.kv = .slice none 0 0 ∧ x'.K = []) :
  CS w0 (w.setCell ⟨g, k * 7 + j, none⟩ u) b2 b5 { c with S := L.set k x' } := by
 have hlen : (L.set k x).length = n := by rw [List.length_set, hn]
 have hx : (L.set k x)[k]'(by rw [hlen, ← hn]; exact hk) = x := by simp
 have h2 := OwnC.setS (g := g) (cap := cap) ⟨h.box, h.own⟩ (by show c.sv = .slice _ (L.set k x).length _; rw [hlen]; exact hv) k (by show k < (L.set k x).length; rw [hlen, ← hn]; exact hk) j hj u x' (by show encV x' = (encV ((L.set k x)[k]'_)).set j u; rw [hx]; exact he) (by show x'.kv = ((L.set k x)[k]'_).kv ∧ x'.K = ((L.set k x)[k]'_).K ∨ _; rw [hx]; exact hkk)
 obtain ⟨csg, fz, hgc⟩ := ownsRow_kind h.own.s g (by show c.sv.ownBlock = _; rw [hv]; rfl)
 refine h.rowCell _ _ _ ?_ hg (OfT.one hgc) (by decide)
 have e : ((L.set k x).set k x') = L.set k x' := List.set_set ..
 have h3 : OwnC w0.heap.size _ b5 { c with S := (L.set k x).set k x' } := h2
 rw [e] at h3
 exact h3
theorem CS.setRk {L : List RuleD} {k : Nat} {x : RuleD} {g cap n : Nat} (h : CS w0 w b2 b5 { c with R := L.set k x }) (hv : c.rv = .slice (some ⟨g, 0, none⟩) n cap) (hn : L.length = n) (hk : k < L.length) (hg : w0.heap.size ≤ g) (j : Nat) (hj : j < 19) (u : Value) (x' : RuleD) (he : encR x' = (encR x).set j u) (hkk : RuleOwn w0.heap.size w x → RuleOwn w0.heap.size w x') :
  CS w0 (w.setCell ⟨g, k * 19 + j, none⟩ u) b2 b5 { c with R := L.set k x' } := by
 have hlen : (L.set k x).length = n := by rw [List.length_set, hn]
 have hx : (L.set k x)[k]'(by rw [hlen, ← hn]; exact hk) = x := by simp
 have h2 := OwnC.setR (g := g) (cap := cap) ⟨h.box, h.own⟩ (by show c.rv = .slice _ (L.set k x).length _; rw [hlen]; exact hv) k (by show k < (L.set k x).length; rw [hlen, ← hn]; exact hk) j hj u x' (by show encR x' = (encR ((L.set k x)[k]'_)).set j u; rw [hx]; exact he) (by show RuleOwn _ _ ((L.set k x)[k]'_) → _; rw [hx]; exact hkk)
 obtain ⟨csg, fz, hgc⟩ := ownsRow_kind h.own.r g (by show c.rv.ownBlock = _; rw [hv]; rfl)
 refine h.rowCell _ _ _ ?_ hg (OfT.one hgc) (by decide)
 have e : ((L.set k x).set k x') = L.set k x' := List.set_set ..
 have h3 : OwnC w0.heap.size _ b5 { c with R := (L.set k x).set k x' } := h2
 rw [e] at h3
 exact h3
theorem CS.cellS {L : List SvcD} {k : Nat} {x : SvcD} {g cap n : Nat} (h : CS w0 w b2 b5 { c with S := L.set k x }) (hv : c.sv = .slice (some ⟨g, 0, none⟩) n cap) (hn : L.length = n) (hk : k < L.length) (j : Nat) (u : Value) (hu : (encV x)[j]? = some u) : w.cell? ⟨g, k * 7 + j, none⟩ = some u ∧ w.frozen? ⟨g, k * 7 + j, none⟩ = false := by
 have hlen : (L.set k x).length = n := by rw [List.length_set, hn]
 have ho : w.ownsRow w0.heap.size 62 7 (.slice (some ⟨g, 0, none⟩) n cap) n ((L.set k x).flatMap encV) := by
  have := h.own.s
  show World.ownsRow _ _ _ _ _ n _
  rw [← hv, ← hlen]
  exact this
 have hx : (L.set k x)[k]'(by rw [hlen, ← hn]; exact hk) = x := by simp
 exact cell_rowG encV_len ho k (by rw [hlen, ← hn]; exact hk) j u (by rw [hx]; exact hu)
theorem CS.cellR {L : List RuleD} {k : Nat} {x : RuleD} {g cap n : Nat} (h : CS w0 w b2 b5 { c with R := L.set k x }) (hv : c.rv = .slice (some ⟨g, 0, none⟩) n cap) (hn : L.length = n) (hk : k < L.length) (j : Nat) (u : Value) (hu : (encR x)[j]? = some u) : w.cell? ⟨g, k * 19 + j, none⟩ = some u ∧ w.frozen? ⟨g, k * 19 + j, none⟩ = false := by
 have hlen : (L.set k x).length = n := by rw [List.length_set, hn]
 have ho : w.ownsRow w0.heap.size 54 19 (.slice (some ⟨g, 0, none⟩) n cap) n ((L.set k x).flatMap encR) := by
  have := h.own.r
  show World.ownsRow _ _ _ _ _ n _
  rw [← hv, ← hlen]
  exact this
 have hx : (L.set k x)[k]'(by rw [hlen, ← hn]; exact hk) = x := by simp
 exact cell_rowG encR_len ho k (by rw [hlen, ← hn]; exact hk) j u (by rw [hx]; exact hu)
end
/-- what mesh tells -/
def MeshP (L : List Int) (q : Int) (w : World) (e : Ending) (w' : World) : Prop := ∃ c c0, e = .returned c.val ∧ c0.core = genC L ∧ c = meshC q c0 ∧ ConfOwn w.heap.size w' c ∧ Ext w w'
set_option maxRecDepth 100000 in
set_option maxHeartbeats 16000000 in
/-- a small mesh, of numbers -/
theorem mesh_any (L : List Int) (how : Int) (v : Value) (w : World) (hs : Ints w v L) (hL : ∀ x ∈ L, I64 x) (hh : I64 how) :
  Calls Tryz.prog 9 #[v, .int .i64 how] w (MeshP L (around how 4) w) := by
 obtain ⟨cd, hcd1, hcd2⟩ := Tryz.confDesc
 have HS := hide hs
 have HL := hide hL
 have hAR := fun X => around_any how 4 X hh (by decide)
 have hqb := around_bd how 4 (by decide)
 generalize around how 4 = q at hAR hqb ⊢
 have HAR := hide hAR
 have HQ := hide hqb
 obtain ⟨_, va, vc, rfl⟩ := hs.shape
 clear hs hL hAR hqb
 go_enter Tryz.func9, Tryz.ntmps9
 go_upto_region 1 with (fail)
 have hx0 : Ext w (w.alloc (.cells #[.slice none 0 0, .slice none 0 0, .slice none 0 0, .slice none 0 0, .int .i64 0, .int .i64 0, .int .i64 0, .int .i64 0, .int .i64 0, .int .i64 0, .int .i64 0, .int .i64 0, .int .i64 0, .int .i64 0, .int .i64 0, .int .i64 0, .int .i64 0, .int .i64 0, .int .i64 0, .int .i64 0] 30)) := (Below.refl _ _).alloc (Nat.le_refl _) _
 have hb0 := heap_alloc_new w (.cells #[.slice none 0 0, .slice none 0 0, .slice none 0 0, .slice none 0 0, .int .i64 0, .int .i64 0, .int .i64 0, .int .i64 0, .int .i64 0, .int .i64 0, .int .i64 0, .int .i64 0, .int .i64 0, .int .i64 0, .int .i64 0, .int .i64 0, .int .i64 0, .int .i64 0, .int .i64 0, .int .i64 0] 30)
 obtain ⟨b4, hb4⟩ : ∃ b, w.heap.size = b := ⟨_, rfl⟩
 rw [hb4] at hb0
 have hge4 : w.heap.size ≤ b4 := by omega
 have hsz0 : b4 < (w.alloc (.cells #[.slice none 0 0, .slice none 0 0, .slice none 0 0, .slice none 0 0, .int .i64 0, .int .i64 0, .int .i64 0, .int .i64 0, .int .i64 0, .int .i64 0, .int .i64 0, .int .i64 0, .int .i64 0, .int .i64 0, .int .i64 0, .int .i64 0, .int .i64 0, .int .i64 0, .int .i64 0, .int .i64 0] 30)).heap.size := (Array.getElem?_eq_some_iff.1 hb0).1
 generalize w.alloc (.cells #[.slice none 0 0, .slice none 0 0, .slice none 0 0, .slice none 0 0, .int .i64 0, .int .i64 0, .int .i64 0, .int .i64 0, .int .i64 0, .int .i64 0, .int .i64 0, .int .i64 0, .int .i64 0, .int .i64 0, .int .i64 0, .int .i64 0, .int .i64 0, .int .i64 0, .int .i64 0, .int .i64 0] 30) = W0 at hx0 hb0 hsz0 ⊢
 have HB0 := hide hb0
 have HX0 := hide hx0
 have HG4 := hide hge4
 have HB4 := hide hb4
 clear hx0 hb0 hge4 hb4
 go_wp2_with fail
 refine (conf_any L (.slice va L.length vc) W0 (HS.out.ext HX0.out) HL.out).mono ?_
 rintro e W1 ⟨c, rfl, hc, ho, E1⟩
 have hth := OwnC.there (Z := #[.slice none 0 0, .slice none 0 0, .slice none 0 0, .slice none 0 0, .int .i64 0, .int .i64 0, .int .i64 0, .int .i64 0, .int .i64 0, .int .i64 0, .int .i64 0, .int .i64 0, .int .i64 0, .int .i64 0, .int .i64 0, .int .i64 0, .int .i64 0, .int .i64 0, .int .i64 0, .int .i64 0]) rfl W1
 go_upto_region 2 with (refine wpList_store_mid rfl 30 (.tmp 5) (.tmp 9) rfl W1.heap.size 0 (encC c).toArray rfl rfl hth Tryz.confSize (all_oneCell_toArray (encC_oneG ho)) ?_)
 obtain ⟨h2, E2⟩ := OwnC.store (Z := #[.slice none 0 0, .slice none 0 0, .slice none 0 0, .slice none 0 0, .int .i64 0, .int .i64 0, .int .i64 0, .int .i64 0, .int .i64 0, .int .i64 0, .int .i64 0, .int .i64 0, .int .i64 0, .int .i64 0, .int .i64 0, .int .i64 0, .int .i64 0, .int .i64 0, .int .i64 0, .int .i64 0]) rfl ho
 show Code.wp _ _ _ _ ((W1.alloc (.cells #[.slice none 0 0, .slice none 0 0, .slice none 0 0, .slice none 0 0, .int .i64 0, .int .i64 0, .int .i64 0, .int .i64 0, .int .i64 0, .int .i64 0, .int .i64 0, .int .i64 0, .int .i64 0, .int .i64 0, .int .i64 0, .int .i64 0, .int .i64 0, .int .i64 0, .int .i64 0, .int .i64 0] 30)).setCells W1.heap.size 0 (encC c))
 generalize (W1.alloc (.cells #[.slice none 0 0, .slice none 0 0, .slice none 0 0, .slice none 0 0, .int .i64 0, .int .i64 0, .int .i64 0, .int .i64 0, .int .i64 0, .int .i64 0, .int .i64 0, .int .i64 0, .int .i64 0, .int .i64 0, .int .i64 0, .int .i64 0, .int .i64 0, .int .i64 0, .int .i64 0, .int .i64 0] 30)).setCells W1.heap.size 0 (encC c) = W2 at h2 E2 ⊢
 have hb02 : ∃ cs : Array Value, W2.heap[b4]? = some (.cells cs 30 (0, 0)) ∧ cs.size = 20 := ⟨_, ((E1.trans E2).block b4 hsz0).trans HB0.out, rfl⟩
 have hsz1 : W0.heap.size ≤ W1.heap.size := E1.size
 obtain ⟨b5, hb5⟩ : ∃ b, W1.heap.size = b := ⟨_, rfl⟩
 rw [hb5] at h2 hsz1 ⊢
 have hwz : w.heap.size ≤ W0.heap.size := HX0.out.size
 have hcs2 : CS w W2 b4 b5 c := ⟨HX0.out.trans (E1.trans E2), h2.box, ConfOwn.monoG h2.own hwz, hb02, by omega, HG4.out, by omega⟩
 have HC := hide hcs2
 have HCO := hide hc
 have hlr : c.R.length ≤ 20 := chk_R (good_conf hc).2.1
 have hls : c.S.length ≤ 10 := chk_S (good_conf hc).2.1
 have HLR := hide hlr
 have HLS := hide hls
 obtain ⟨sa, sc, hsv⟩ := owns_shape hcs2.own.s
 obtain ⟨ra, rc, hrv⟩ := owns_shape hcs2.own.r
 have HSV := hide hsv
 have HRV := hide hrv
 clear hcs2 hc hwz hsz1 hb02 h2 E1 E2 ho hth hb5 hsz0 HB0 HX0 hlr hls hsv hrv
 go_wp2_with fail
 refine (HAR.out W2).mono ?_
 rintro e X1 ⟨rfl, rfl⟩
 by_cases hq0 : q = 0
 ·subst hq0
  go_upto_region 3 with (fail)
  have HME := hide (show c = meshC 0 c from by unfold meshC; rw [if_pos rfl])
  have hb4 := HB4.out
  subst hb4
  obtain ⟨cs, h6, hcz⟩ := HC.out.bx2
  refine wp_region_lit ?_
  refine wpList_load_mid rfl 30 (.tmp 5) rfl b5 0 rfl (encC c) cd HC.out.box.range hcd1 hcd2 Tryz.confSize ?_
  have hth : W2.there w.heap.size 0 (encC c).toArray.size := fun j hj => by
   have hj' : j < 20 := hj
   rw [Nat.zero_add]
   refine ⟨?_, by simp [World.frozen?, h6]⟩
   simp only [World.cell?, h6]
   simp [hj', hcz]
  refine wpList_store_mid rfl 30 (.tmp 4) (.tmp 13) rfl w.heap.size 0 (encC c).toArray rfl rfl hth Tryz.confSize (all_oneCell_toArray (encC_oneG HC.out.own)) ?_
  refine wpList_nil ?_
  have hrs := World.rangeAt_setCells_same W2 w.heap.size 0 (encC c) hth
  have hk5 := keeps_setCellsG w.heap.size (encC c) 0 W2
  show Exit.then _ _ _ _ (W2.setCells w.heap.size 0 (encC c))
  generalize W2.setCells w.heap.size 0 (encC c) = W10 at hrs hk5 ⊢
  have HEF := hide (Keeps.ext HC.out.ext hk5 (fun g hg => by omega))
  have HOF := hide (HC.out.own.keepT hk5 (OfT.one h6) (by decide) (by decide) (by decide) (by decide) (by decide) (by decide) (by decide))
  have HRG := hide hrs
  clear hrs hk5 hth h6 hcz
  simp only [Act.put]
  go_wp2_with (fail)
  (try simp only [Exit.inBlock, Exit.then])
  refine bodyPost_ret (results_cell_mid rfl _ _ w.heap.size 0 (encC c) cd rfl HRG.out hcd1 hcd2 Tryz.confSize) rfl ?_
  exact ⟨c, c, rfl, HCO.out, HME.out, HOF.out, HEF.out⟩
 ·have hq0z : ¬ (q : Int) = 0 := hq0
  have hq0b : (q == 0) = false := by simp [hq0]
  go_upto_region 4 with (fail)
  go_wp2_with fail
  go_loopw [6] (fun v6 wr => ∃ k : Nat, k ≤ c.R.length ∧ v6 = .int .i64 k ∧ Hid (CS w wr b4 b5 { c with R := partI (ruleM q) c.R k })) (fun k _ => c.R.length - (intOf k).toNat)
  case atStart => exact ⟨0, Nat.zero_le _, rfl, hide (by rw [partI_zero]; exact HC.out)⟩
  case round =>
   obtain ⟨k, hk, rfl, hcs⟩ := hrel
   have HCk := hide hcs.out
   clear hcs
   have hz2 : wr.cell? ⟨b5, 2, none⟩ = some (.slice ra c.R.length rc) := HCk.out.box.cell 2 _ (by show some c.rv = _; rw [HRV.out])
   by_cases hlt : k < c.R.length
   ·have hltz : (k : Int) < c.R.length := by omega
    have hwk : IntKind.i64.wrap ((k : Int) + 1) = ((k + 1 : Nat) : Int) := by have := HLR.out; rw [IntKind.wrap_i64]; omega
    have hw7 : IntKind.i64.wrap (7 * (k : Int)) = 7 * (k : Int) := by have := HLR.out; rw [IntKind.wrap_i64]; omega
    have hw18 : IntKind.i64.wrap (18 + 7 * (k : Int)) = 18 + 7 * (k : Int) := by have := HLR.out; rw [IntKind.wrap_i64]; omega
    obtain ⟨g, cap, hgv, hgg⟩ := owns_block (show wr.ownsRow w.heap.size _ 19 c.rv (partI (ruleM q) c.R k).length _ from HCk.out.own.r) (by rw [partI_len]; omega)
    rw [partI_len] at hgv
    have hra : ra = some ⟨g, 0, none⟩ ∧ rc = cap := by
     have := HRV.out.symm.trans hgv
     injection this with h1 h2 h3
     exact ⟨h1, h3⟩
    obtain ⟨rfl, rfl⟩ := hra
    have hlen : (partI (ruleM q) c.R k).length = c.R.length := partI_len _ _ _
    have hkl : k < (partI (ruleM q) c.R k).length := by rw [hlen]; exact hlt
    have hc1 : CS w wr b4 b5 { c with R := (partI (ruleM q) c.R k).set k c.R[k] } := by
     rw [← partI_at (ruleM q) c.R hlt, set_self _ hkl]
     exact HCk.out
    have hnext := partI_next (ruleM q) c.R hlt
    have HNX := hide hnext
    obtain ⟨x, hx⟩ : ∃ x, c.R[k] = x := ⟨_, rfl⟩
    rw [hx] at hc1 hnext
    have HXK := hide hx
    have HNX := hide hnext
    generalize partI (ruleM q) c.R k = LK at hc1 hlen hkl HNX
    have HK1 := hide hc1
    have HLN := hide hlen
    have HKL := hide hkl
    have HGG := hide hgg
    have HGV := hide hgv
    clear hc1 hlen hkl hgg hgv hx hnext HCk
    obtain ⟨y1, y2⟩ := HK1.out.cellR HGV.out HLN.out HKL.out 5 (.int .i64 x.ab) rfl
    have hn := HK1.out.setRk HGV.out HLN.out HKL.out HGG.out 5 (by decide) (.int .i64 0) { x with ab := 0 } rfl (fun h => h)
    have y3 : wr.cell? ⟨b5, 2, none⟩ = some (.slice (some ⟨g, 0, none⟩) c.R.length rc) := HK1.out.box.cell 2 _ (by show some c.rv = _; rw [HRV.out])
    have HK2 := hide hn
    clear hn
    go_upto_region 8 with (fail)
    generalize wr.setCell ⟨g, k * 19 + 5, none⟩ (.int .i64 0) = wr1 at HK2 ⊢
    clear y1 y2 y3 HK1
    obtain ⟨y1, y2⟩ := HK2.out.cellR HGV.out HLN.out HKL.out 18 (.int .i64 x.rate) rfl
    have hn := HK2.out.setRk HGV.out HLN.out HKL.out HGG.out 18 (by decide) (.int .i64 0) { x with ab := 0, rate := 0 } rfl (fun h => h)
    have y3 : wr1.cell? ⟨b5, 2, none⟩ = some (.slice (some ⟨g, 0, none⟩) c.R.length rc) := HK2.out.box.cell 2 _ (by show some c.rv = _; rw [HRV.out])
    have HK3 := hide hn
    clear hn
    go_upto_region 9 with (fail)
    generalize wr1.setCell ⟨g, k * 19 + 18, none⟩ (.int .i64 0) = wr2 at HK3 ⊢
    clear y1 y2 y3 HK2
    obtain ⟨y1, y2⟩ := HK3.out.cellR HGV.out HLN.out HKL.out 11 (.int .i64 x.q0) rfl
    have hn := HK3.out.setRk HGV.out HLN.out HKL.out HGG.out 11 (by decide) (.int .i64 90) { x with ab := 0, rate := 0, q0 := 90 } rfl (fun h => h)
    have y3 : wr2.cell? ⟨b5, 2, none⟩ = some (.slice (some ⟨g, 0, none⟩) c.R.length rc) := HK3.out.box.cell 2 _ (by show some c.rv = _; rw [HRV.out])
    have HK4 := hide hn
    clear hn
    go_upto_region 10 with (fail)
    generalize wr2.setCell ⟨g, k * 19 + 11, none⟩ (.int .i64 90) = wr3 at HK4 ⊢
    clear y1 y2 y3 HK3
    go_wp2_with fail
    refine (HAR.out wr3).mono ?_
    rintro e X2 ⟨rfl, rfl⟩
    by_cases hq3 : q = 3
    ·subst hq3
     obtain ⟨y1, y2⟩ := HK4.out.cellR HGV.out HLN.out HKL.out 11 (.int .i64 90) rfl
     have hn := HK4.out.setRk HGV.out HLN.out HKL.out HGG.out 11 (by decide) (.int .i64 (18 + 7 * (k : Int))) (ruleM 3 k x) rfl (fun h => h)
     have y3 : wr3.cell? ⟨b5, 2, none⟩ = some (.slice (some ⟨g, 0, none⟩) c.R.length rc) := HK4.out.box.cell 2 _ (by show some c.rv = _; rw [HRV.out])
     have HK5 := hide hn
     clear hn
     go_upto_region 6 with (fail)
     generalize wr3.setCell ⟨g, k * 19 + 11, none⟩ (.int .i64 (18 + 7 * (k : Int))) = wr4 at HK5 ⊢
     clear y1 y2 y3 HK4
     go_wp2
     go_roundw
     case rel => exact ⟨k + 1, hlt, by go_num, hide (by rw [← HNX.out]; exact HK5.out)⟩
     case measure => simp [intOf]; omega
    ·have hq3z : ¬ (q : Int) = 3 := hq3
     go_wp2
     go_roundw
     case rel => exact ⟨k + 1, hlt, by go_num, hide (by rw [← HNX.out, show ruleM q k x = { x with ab := 0, rate := 0, q0 := 90 } from by unfold ruleM; rw [if_neg hq3]]; exact HK4.out)⟩
     case measure => simp [intOf]; omega
   ·obtain rfl : k = c.R.length := by omega
    have hltz : ¬ (c.R.length : Int) < c.R.length := by omega
    rw [partI_all] at HCk
    obtain ⟨c1, hc1⟩ : ∃ c1 : ConfD, { c with R := c.R.mapIdx (ruleM q) } = c1 := ⟨_, rfl⟩
    have h1 := HCk.out
    rw [hc1] at h1
    have HC1 := hide h1
    have e1 : c1.S = c.S := by rw [← hc1]
    have e2 : c1.sv = .slice sa c1.S.length sc := by rw [e1, ← hc1]; exact HSV.out
    have HSV1 := hide e2
    have HLS1 := hide (show c1.S.length ≤ 10 from by rw [e1]; exact HLS.out)
    have HD1 := hide hc1
    clear h1 hc1 e1 e2 HCk HLS HSV HC
    go_wp2_with fail
    clear hz2 hltz
    go_loopw [7] (fun v6 ws => ∃ k : Nat, k ≤ c1.S.length ∧ v6 = .int .i64 k ∧ Hid (CS w ws b4 b5 { c1 with S := partI (svcM q) c1.S k })) (fun k _ => c1.S.length - (intOf k).toNat)
    case atStart => exact ⟨0, Nat.zero_le _, rfl, hide (by rw [partI_zero]; exact HC1.out)⟩
    case round =>
     obtain ⟨k, hk, rfl, hcs⟩ := hrel
     have HCk := hide hcs.out
     clear hcs
     have hz2 : wr.cell? ⟨b5, 0, none⟩ = some (.slice sa c1.S.length sc) := HCk.out.box.cell 0 _ (by show some c1.sv = _; rw [HSV1.out])
     by_cases hlt : k < c1.S.length
     ·have hltz : (k : Int) < c1.S.length := by omega
      have hwk : IntKind.i64.wrap ((k : Int) + 1) = ((k + 1 : Nat) : Int) := by have := HLS1.out; rw [IntKind.wrap_i64]; omega
      obtain ⟨g, cap, hgv, hgg⟩ := owns_block (show wr.ownsRow w.heap.size _ 7 c1.sv (partI (svcM q) c1.S k).length _ from HCk.out.own.s) (by rw [partI_len]; omega)
      rw [partI_len] at hgv
      have hra : sa = some ⟨g, 0, none⟩ ∧ sc = cap := by
       have := HSV1.out.symm.trans hgv
       injection this with h1 h2 h3
       exact ⟨h1, h3⟩
      obtain ⟨rfl, rfl⟩ := hra
      have hlen : (partI (svcM q) c1.S k).length = c1.S.length := partI_len _ _ _
      have hkl : k < (partI (svcM q) c1.S k).length := by rw [hlen]; exact hlt
      have hc1 : CS w wr b4 b5 { c1 with S := (partI (svcM q) c1.S k).set k c1.S[k] } := by
       rw [← partI_at (svcM q) c1.S hlt, set_self _ hkl]
       exact HCk.out
      have hnext := partI_next (svcM q) c1.S hlt
      obtain ⟨x, hx⟩ : ∃ x, c1.S[k] = x := ⟨_, rfl⟩
      rw [hx] at hc1 hnext
      have HNX := hide hnext
      generalize partI (svcM q) c1.S k = LK at hc1 hlen hkl HNX
      have HK1 := hide hc1
      have HLN := hide hlen
      have HKL := hide hkl
      have HGG := hide hgg
      have HGV := hide hgv
      clear hc1 hlen hkl hgg hgv hx hnext HCk
      obtain ⟨y1, y2⟩ := HK1.out.cellS HGV.out HLN.out HKL.out 4 (.int .i64 x.queue) rfl
      have hn := HK1.out.setSk HGV.out HLN.out HKL.out HGG.out 4 (by decide) (.int .i64 6) { x with queue := 6 } rfl (.inl ⟨rfl, rfl⟩)
      have y3 : wr.cell? ⟨b5, 0, none⟩ = some (.slice (some ⟨g, 0, none⟩) c1.S.length sc) := HK1.out.box.cell 0 _ (by show some c1.sv = _; rw [HSV1.out])
      have HK2 := hide hn
      clear hn
      go_upto_region 16 with (fail)
      generalize wr.setCell ⟨g, k * 7 + 4, none⟩ (.int .i64 6) = ws1 at HK2 ⊢
      clear y1 y2 y3 HK1
      go_wp2_with fail
      refine (HAR.out ws1).mono ?_
      rintro e X2 ⟨rfl, rfl⟩
      by_cases hq1 : 1 < q
      ·have hq1z : q > 1 := hq1
       have hq1d : decide (1 < q) = true := decide_eq_true hq1
       have hrem : (k : Int).tmod 2 = ((k % 2 : Nat) : Int) := by rw [Int.tmod_eq_emod_of_nonneg (by omega)]; omega
       by_cases hk2 : k % 2 = 1
       ·rw [hk2] at hrem
        obtain ⟨y1, y2⟩ := HK2.out.cellS HGV.out HLN.out HKL.out 1 x.kv rfl
        have hn := HK2.out.setSk HGV.out HLN.out HKL.out HGG.out 1 (by decide) (.slice none 0 0) { x with queue := 6, kv := .slice none 0 0, K := [] } rfl (.inr ⟨rfl, rfl⟩)
        have y3 : ws1.cell? ⟨b5, 0, none⟩ = some (.slice (some ⟨g, 0, none⟩) c1.S.length sc) := HK2.out.box.cell 0 _ (by show some c1.sv = _; rw [HSV1.out])
        have HK3 := hide hn
        clear hn
        go_upto_region 14 with (fail)
        generalize ws1.setCell ⟨g, k * 7 + 1, none⟩ (.slice none 0 0) = ws2 at HK3 ⊢
        clear y1 y2 y3 HK2
        go_wp2
        go_roundw
        case rel => exact ⟨k + 1, hlt, by go_num, hide (by rw [← HNX.out, show svcM q k x = { x with queue := 6, kv := .slice none 0 0, K := [] } from by unfold svcM; rw [if_pos ⟨hq1, hk2⟩, if_pos ⟨hq1, hk2⟩]]; exact HK3.out)⟩
        case measure => simp [intOf]; omega
       ·have hk20 : k % 2 = 0 := by omega
        rw [hk20] at hrem
        go_wp2
        go_roundw
        case rel => exact ⟨k + 1, hlt, by go_num, hide (by rw [← HNX.out, show svcM q k x = { x with queue := 6 } from by unfold svcM; rw [if_neg (fun h => hk2 h.2), if_neg (fun h => hk2 h.2)]]; exact HK2.out)⟩
        case measure => simp [intOf]; omega
      ·have hq1z : ¬ q > 1 := hq1
       have hq1d : decide (1 < q) = false := decide_eq_false hq1
       go_wp2
       go_roundw
       case rel => exact ⟨k + 1, hlt, by go_num, hide (by rw [← HNX.out, show svcM q k x = { x with queue := 6 } from by unfold svcM; rw [if_neg (fun h => absurd h.1 (by omega)), if_neg (fun h => absurd h.1 (by omega))]]; exact HK2.out)⟩
       case measure => simp [intOf]; omega
     ·obtain rfl : k = c1.S.length := by omega
      have hltz : ¬ (c1.S.length : Int) < c1.S.length := by omega
      rw [partI_all] at HCk
      obtain ⟨c2, hc2⟩ : ∃ c2 : ConfD, { c1 with S := c1.S.mapIdx (svcM q) } = c2 := ⟨_, rfl⟩
      have h1 := HCk.out
      rw [hc2] at h1
      have HS1 := hide h1
      have HD2 := hide hc2
      clear h1 hc2 HCk HSV1 HLS1
      have y1 := HS1.out.box.cell 12 (.int .i64 c2.low) rfl
      have y2 := HS1.out.box.frozen 12
      have HS2 := hide (HS1.out.set 12 (.int .i64 3) { c2 with low := 3 } rfl (by have h := HS1.out.own; exact ⟨h.s, h.k, h.e, h.r, h.rr, h.t⟩))
      go_upto_region 19 with (fail)
      generalize wr.setCell ⟨b5, 12, none⟩ (.int .i64 3) = wn1 at HS2 ⊢
      clear y1 y2 HS1
      have y1 := HS2.out.box.cell 13 (.int .i64 c2.high) rfl
      have y2 := HS2.out.box.frozen 13
      have HS3 := hide (HS2.out.set 13 (.int .i64 9) { c2 with low := 3, high := 9 } rfl (by have h := HS2.out.own; exact ⟨h.s, h.k, h.e, h.r, h.rr, h.t⟩))
      go_upto_region 20 with (fail)
      generalize wn1.setCell ⟨b5, 13, none⟩ (.int .i64 9) = wn2 at HS3 ⊢
      clear y1 y2 HS2
      have y1 := HS3.out.box.cell 14 (.int .i64 c2.wait) rfl
      have y2 := HS3.out.box.frozen 14
      have HS4 := hide (HS3.out.set 14 (.int .i64 4) { c2 with low := 3, high := 9, wait := 4 } rfl (by have h := HS3.out.own; exact ⟨h.s, h.k, h.e, h.r, h.rr, h.t⟩))
      go_upto_region 21 with (fail)
      generalize wn2.setCell ⟨b5, 14, none⟩ (.int .i64 4) = wn3 at HS4 ⊢
      clear y1 y2 HS3
      clear hz2
      have HME := hide (show { c2 with low := 3, high := 9, wait := 4 } = meshC q c from by
       rw [← HD2.out, ← HD1.out]
       unfold meshC
       rw [if_neg hq0])
      have HC := hide HS4.out
      clear HS4 HD1 HD2
      generalize ({ c2 with low := 3, high := 9, wait := 4 } : ConfD) = c3 at HC HME
      have hb4 := HB4.out
      subst hb4
      obtain ⟨cs, h6, hcz⟩ := HC.out.bx2
      refine wp_region_lit ?_
      refine wpList_load_mid rfl 30 (.tmp 5) rfl b5 0 rfl (encC c3) cd HC.out.box.range hcd1 hcd2 Tryz.confSize ?_
      have hth : wn3.there w.heap.size 0 (encC c3).toArray.size := fun j hj => by
       have hj' : j < 20 := hj
       rw [Nat.zero_add]
       refine ⟨?_, by simp [World.frozen?, h6]⟩
       simp only [World.cell?, h6]
       simp [hj', hcz]
      refine wpList_store_mid rfl 30 (.tmp 4) (.tmp 78) rfl w.heap.size 0 (encC c3).toArray rfl rfl hth Tryz.confSize (all_oneCell_toArray (encC_oneG HC.out.own)) ?_
      refine wpList_nil ?_
      have hrs := World.rangeAt_setCells_same wn3 w.heap.size 0 (encC c3) hth
      have hk5 := keeps_setCellsG w.heap.size (encC c3) 0 wn3
      show Exit.then _ _ _ _ (wn3.setCells w.heap.size 0 (encC c3))
      generalize wn3.setCells w.heap.size 0 (encC c3) = W10 at hrs hk5 ⊢
      have HEF := hide (Keeps.ext HC.out.ext hk5 (fun g hg => by omega))
      have HOF := hide (HC.out.own.keepT hk5 (OfT.one h6) (by decide) (by decide) (by decide) (by decide) (by decide) (by decide) (by decide))
      have HRG := hide hrs
      clear hrs hk5 hth h6 hcz
      simp only [Act.put]
      go_wp2_with (fail)
      (try simp only [Exit.inBlock, Exit.then])
      refine bodyPost_ret (results_cell_mid rfl _ _ w.heap.size 0 (encC c3) cd rfl HRG.out hcd1 hcd2 Tryz.confSize) rfl ?_
      exact ⟨c3, c, rfl, HCO.out, HME.out, HOF.out, HEF.out⟩
end Go.Proofs.YtceaeiaoanhlnaaGreatDoor
