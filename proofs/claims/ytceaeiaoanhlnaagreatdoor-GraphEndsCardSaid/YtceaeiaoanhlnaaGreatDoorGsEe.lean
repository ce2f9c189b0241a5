import Derived.Test.YtceaeiaoanhlnaaGreatDoorGpHe
import Derived.Test.YtceaeiaoanhlnaaGreatDoorGkVe
import Derived.Test.YtceaeiaoanhlnaaGreatDoorSkFe
import Derived.Test.YtceaeiaoanhlnaaGreatDoorZgae
import Derived.Test.YtceaeiaoanhlnaaGreatDoorZrwe
namespace Go.Proofs.YtceaeiaoanhlnaaGreatDoor
open Go.ChangeShapes Go.WideShapes Go.ChangeAt Go.RowKit Go.Lib Go.Shelf Go.Maps
/-- a configuration that is written behind a world -/
structure DS (w0 w : World) (b : Nat) (c : ConfD) : Prop where
 ext : Ext w0 w
 own : OwnC w0.heap.size w b c
 ge : w0.heap.size ≤ b
section
variable {w0 w w' : World} {b : Nat} {c : ConfD}
theorem DS.to (h : DS w0 w b c) (e : Ext w w') : DS w0 w' b c := ⟨h.ext.trans e, h.own.ext e, h.ge⟩
theorem DS.setN (h : DS w0 w b c) (j : Nat) (u : Value) (c' : ConfD) (he : encC c' = (encC c).set j u) (h1 : c'.sv = c.sv ∧ c'.S = c.S) (h2 : c'.ev = c.ev ∧ c'.E = c.E) (h3 : c'.rv = c.rv ∧ c'.R = c.R) (h4 : c'.tv = c.tv ∧ c'.T = c.T) : DS w0 (w.setCell ⟨b, j, none⟩ u) b c' :=
 ⟨Keeps.ext h.ext (Keeps.of_set (X := fun q => q = b) w b j u rfl) (fun q hq => by rw [hq]; exact h.ge), h.own.setN j u c' he h1 h2 h3 h4, h.ge⟩
theorem DS.setRk {L : List RuleD} {k : Nat} {x : RuleD} {g cap n : Nat} (h : DS w0 w b { c with R := L.set k x }) (hv : c.rv = .slice (some ⟨g, 0, none⟩) n cap) (hn : L.length = n) (hk : k < L.length) (hg : w0.heap.size ≤ g) (j : Nat) (hj : j < 19) (u : Value) (x' : RuleD) (he : encR x' = (encR x).set j u) (hkk : RuleOwn w0.heap.size w x → RuleOwn w0.heap.size w x') :
  DS w0 (w.setCell ⟨g, k * 19 + j, none⟩ u) b { c with R := L.set k x' } := by
 have hlen : (L.set k x).length = n := by rw [List.length_set, hn]
 have hx : (L.set k x)[k]'(by rw [hlen, ← hn]; exact hk) = x := by simp
 have h2 := OwnC.setR (g := g) (cap := cap) h.own (by show c.rv = .slice _ (L.set k x).length _; rw [hlen]; exact hv) k (by show k < (L.set k x).length; rw [hlen, ← hn]; exact hk) j hj u x' (by show encR x' = (encR ((L.set k x)[k]'_)).set j u; rw [hx]; exact he) (by show RuleOwn _ _ ((L.set k x)[k]'_) → _; rw [hx]; exact hkk)
 have e : ((L.set k x).set k x') = L.set k x' := List.set_set ..
 have h3 : OwnC w0.heap.size _ b { c with R := (L.set k x).set k x' } := h2
 rw [e] at h3
 exact ⟨Keeps.ext h.ext (Keeps.of_set (X := fun q => q = g) w g _ u rfl) (fun q hq => by rw [hq]; exact hg), h3, h.ge⟩
theorem DS.cellR {L : List RuleD} {k : Nat} {x : RuleD} {g cap n : Nat} (h : DS w0 w b { c with R := L.set k x }) (hv : c.rv = .slice (some ⟨g, 0, none⟩) n cap) (hn : L.length = n) (hk : k < L.length) (j : Nat) (u : Value) (hu : (encR x)[j]? = some u) : w.cell? ⟨g, k * 19 + j, none⟩ = some u ∧ w.frozen? ⟨g, k * 19 + j, none⟩ = false := by
 have hlen : (L.set k x).length = n := by rw [List.length_set, hn]
 have ho : w.ownsRow w0.heap.size 54 19 (.slice (some ⟨g, 0, none⟩) n cap) n ((L.set k x).flatMap encR) := by
  have := h.own.own.r
  show World.ownsRow _ _ _ _ _ n _
  rw [← hv, ← hlen]
  exact this
 have hx : (L.set k x)[k]'(by rw [hlen, ← hn]; exact hk) = x := by simp
 exact cell_rowG encR_len ho k (by rw [hlen, ← hn]; exact hk) j u (by rw [hx]; exact hu)
end
/-- one cell is written, behind all that it waits for -/
def PhG0 (W : World) (q : Addr) (v : Value) : List Value → World → Prop
 | [], w' => Ext W w'
 | _ :: _, w' => ∃ w8, Ext W w8 ∧ Ext (w8.setCell q v) w'
theorem PhG0.keep {W : World} {q : Addr} {v : Value} : ∀ {vs : List Value} {w' w'' : World}, PhG0 W q v vs w' → Ext w' w'' → PhG0 W q v vs w''
 | [], _, _, h, e => Ext.trans h e
 | _ :: _, _, _, ⟨w8, h1, h2⟩, e => ⟨w8, h1, h2.trans e⟩
theorem PhG0.x {W : World} {q : Addr} {v : Value} {vs : List Value} {w' : World} (h : PhG0 W q v vs w') (hl : vs.length ≤ 0) : Ext W w' := by
 rcases vs with _ | ⟨u, vs⟩
 ·exact h
 ·simp at hl
theorem mapIdx_const {α : Type} (f : α → α) (l : List α) : l.mapIdx (fun _ => f) = l.map f := by
 apply List.ext_getElem?
 intro i
 simp only [List.getElem?_mapIdx, List.getElem?_map]
/-- what the law asks of one path -/
theorem ends_or {w : World} {c d : ConfD} (hg : GC w c) {a : Int} (ha : 0 ≤ a) (hd : d.core = (moreC a c).core) (p : ByteArray) : ∃ (t u : Int) (s y : Bool), aloneC c p = (t, s) ∧ aloneC d p = (u, y) ∧ ((s = true ∧ 2 * c.hop + 3 ≤ t ∧ t ≤ c.life ∧ t = u ∧ y = true) ∨ (s = false ∧ t = 0)) := by
 have e : aloneC d p = aloneC (moreC a c) p := alone_like hd p
 have h := ends_plain hg ha p
 generalize aloneC (moreC a c) p = z at e h
 generalize aloneC d p = y at e ⊢
 generalize aloneC c p = x at h ⊢
 subst e
 obtain ⟨t, s⟩ := x
 obtain ⟨u, q⟩ := y
 refine ⟨t, u, s, q, rfl, rfl, ?_⟩
 rcases h with ⟨h1, h2, h3, h4⟩ | ⟨h1, h2⟩
 ·left
  injection h4 with a1 a2
  exact ⟨h1, h2, h3, a1.symm, a2.trans h1⟩
 ·exact .inr ⟨h1, h2⟩
theorem allocC33 (w : World) : (Instr.alloc 30 true (.tuple #[])).run Tryz.prog w = .ok (.pointer (some ⟨w.heap.size, 0, none⟩)) (w.alloc (.cells #[.slice none 0 0, .slice none 0 0, .slice none 0 0, .slice none 0 0, .int .i64 0, .int .i64 0, .int .i64 0, .int .i64 0, .int .i64 0, .int .i64 0, .int .i64 0, .int .i64 0, .int .i64 0, .int .i64 0, .int .i64 0, .int .i64 0, .int .i64 0, .int .i64 0, .int .i64 0, .int .i64 0] 30)) := by kernel_rfl
set_option maxRecDepth 100000 in
theorem frame134 (x : Nat → Value) : frameOf 134 x = #[x 0, x 1, x 2, x 3, x 4, x 5, x 6, x 7, x 8, x 9, x 10, x 11, x 12, x 13, x 14, x 15, x 16, x 17, x 18, x 19, x 20, x 21, x 22, x 23, x 24, x 25, x 26, x 27, x 28, x 29, x 30, x 31, x 32, x 33, x 34, x 35, x 36, x 37, x 38, x 39, x 40, x 41, x 42, x 43, x 44, x 45, x 46, x 47, x 48, x 49, x 50, x 51, x 52, x 53, x 54, x 55, x 56, x 57, x 58, x 59, x 60, x 61, x 62, x 63, x 64, x 65, x 66, x 67, x 68, x 69, x 70, x 71, x 72, x 73, x 74, x 75, x 76, x 77, x 78, x 79, x 80, x 81, x 82, x 83, x 84, x 85, x 86, x 87, x 88, x 89, x 90, x 91, x 92, x 93, x 94, x 95, x 96, x 97, x 98, x 99, x 100, x 101, x 102, x 103, x 104, x 105, x 106, x 107, x 108, x 109, x 110, x 111, x 112, x 113, x 114, x 115, x 116, x 117, x 118, x 119, x 120, x 121, x 122, x 123, x 124, x 125, x 126, x 127, x 128, x 129, x 130, x 131, x 132, x 133] := rfl
set_option maxRecDepth 100000 in
set_option maxHeartbeats 16000000 in
theorem endsl_any (L : List Int) (how more : Int) (v : Value) (w : World) (hm : MaxV w) (hs : Ints w v L) (hL : ∀ x ∈ L, I64 x) (hh : I64 how) (hmo : I64 more) :
  Calls Tryz.prog 8 #[v, .int .i64 how, .int .i64 more] w fun e w' => e = .returned (.bool true) ∧ Ext w w' := by
 obtain ⟨cd, hcd1, hcd2⟩ := Tryz.confDesc
 have HM := hide hm
 have hA1 := fun X => around_any more 100 X hmo (by decide)
 have hb1 := around_bd more 100 (by decide)
 generalize around more 100 = a at hA1 hb1
 have HA0 := hide hA1
 have HAB := hide hb1
 have HME := hide (mesh_any L how v w hs hL hh)
 have HMD := hide (fun X (hX : Ext w X) => mesh_any L how v X (hs.ext hX) hL hh)
 clear hm hA1 hb1 hs hL
 go_enter Tryz.func8, Tryz.ntmps8
 go_upto_region 1 with (fail)
 refine wp_region_lit ?_
 refine wpList_plain rfl fun Kq hKq => ?_
 go_simp
 refine hKq _ _ ?_
 clear hKq Kq
 refine wpList_plain rfl fun Kq hKq => ?_
 go_simp
 refine hKq _ _ ?_
 clear hKq Kq
 refine wpList_plain rfl fun Kq hKq => ?_
 go_simp
 refine HME.out.mono ?_
 rintro e W1 ⟨c, c0, rfl, hc0, hc, ho, E1⟩
 refine hKq _ _ ?_
 clear hKq Kq
 refine wpList_box rfl 30 rfl rfl (.tmp 7) (.tmp 18) rfl (encC c) #[.slice none 0 0, .slice none 0 0, .slice none 0 0, .slice none 0 0, .int .i64 0, .int .i64 0, .int .i64 0, .int .i64 0, .int .i64 0, .int .i64 0, .int .i64 0, .int .i64 0, .int .i64 0, .int .i64 0, .int .i64 0, .int .i64 0, .int .i64 0, .int .i64 0, .int .i64 0, .int .i64 0] allocC33 rfl rfl rfl Tryz.confSize (encC_oneG ho) ?_
 intro W2 hbx2 E2
 obtain ⟨b7, hb7⟩ : ∃ b, W1.heap.size = b := ⟨_, rfl⟩
 rw [hb7] at hbx2 ⊢
 have h2 : OwnC w.heap.size W2 b7 c := ⟨hbx2, ho.ext E2⟩
 refine wpList_nil ?_
 simp only [Act.put]
 have HX2 := hide (E1.trans E2)
 have HO2 := hide h2
 clear h2 hbx2 E1 E2 ho hb7
 go_upto_region 2 with (fail)
 refine wp_region_lit ?_
 refine wpList_plain rfl fun Kq hKq => ?_
 go_simp
 refine hKq _ _ ?_
 clear hKq Kq
 refine wpList_plain rfl fun Kq hKq => ?_
 go_simp
 refine hKq _ _ ?_
 clear hKq Kq
 refine wpList_plain rfl fun Kq hKq => ?_
 go_simp
 refine (HMD.out W2 HX2.out).mono ?_
 rintro e W3 ⟨d, d0, rfl, hd0, hd, hod, E3⟩
 refine hKq _ _ ?_
 clear hKq Kq
 refine wpList_box rfl 30 rfl rfl (.tmp 8) (.tmp 21) rfl (encC d) #[.slice none 0 0, .slice none 0 0, .slice none 0 0, .slice none 0 0, .int .i64 0, .int .i64 0, .int .i64 0, .int .i64 0, .int .i64 0, .int .i64 0, .int .i64 0, .int .i64 0, .int .i64 0, .int .i64 0, .int .i64 0, .int .i64 0, .int .i64 0, .int .i64 0, .int .i64 0, .int .i64 0] allocC33 rfl rfl rfl Tryz.confSize (encC_oneG hod) ?_
 intro V4 hbx4 E4
 have hge : W2.heap.size ≤ W3.heap.size := E3.size
 obtain ⟨b8, hb8⟩ : ∃ b, W3.heap.size = b := ⟨_, rfl⟩
 rw [hb8] at hbx4 hge ⊢
 have h4 : OwnC W2.heap.size V4 b8 d := ⟨hbx4, hod.ext E4⟩
 refine wpList_nil ?_
 simp only [Act.put]
 have HS1 := hide (show DS W2 V4 b8 d from ⟨E3.trans E4, h4, hge⟩)
 -- what the numbers are
 obtain ⟨g1, g2, -⟩ := good_conf hc0
 obtain ⟨f1, f2, -⟩ := good_conf hd0
 have hcg : chkC c = 0 ∧ ConfFit c := by subst hc; exact ⟨meshC_right _ g2, meshC_fit _ (chk_R g2) g1⟩
 have hdg : chkC d = 0 ∧ ConfFit d := by subst hd; exact ⟨meshC_right _ f2, meshC_fit _ (chk_R f2) f1⟩
 have hq := mesh_q0 hd0 (around how 4)
 rw [← hd] at hq
 have hcore : d.core = c.core := by rw [hc, hd, mesh_core, mesh_core, hc0, hd0]
 have hwd := (chk_num hdg.1).2.2.1
 have hwa : IntKind.i64.wrap (d.life + a) = d.life + a := by have := hq.2.1; have := HAB.out; rw [IntKind.wrap_i64]; omega
 have hwb : IntKind.i64.wrap (d.horizon + a) = d.horizon + a := by have := hq.2.2; have := HAB.out; rw [IntKind.wrap_i64]; omega
 have hwc : IntKind.i64.wrap (d.wait + a) = d.wait + a := by have := HAB.out; rw [IntKind.wrap_i64]; omega
 have HCG := hide hcg
 have HDG := hide hdg
 have HQQ := hide hq
 have HCO := hide hcore
 clear hc0 hc hd0 hd hod E3 E4 h4 hbx4 hge hb8 g1 g2 f1 f2 hcg hdg hq hcore hwd HME HMD
 go_wp2_with fail
 refine (HA0.out V4).mono ?_
 rintro e X1 ⟨rfl, rfl⟩
 go_upto_region 4 with (fail)
 have y1 := HS1.out.own.box.cell 16 (.int .i64 d.life) rfl
 have y2 := HS1.out.own.box.frozen 16
 have HS2 := hide (HS1.out.setN 16 (.int .i64 (d.life + a)) { d with life := d.life + a } rfl ⟨rfl, rfl⟩ ⟨rfl, rfl⟩ ⟨rfl, rfl⟩ ⟨rfl, rfl⟩)
 go_upto_region 5 with (fail)
 generalize V4.setCell ⟨b8, 16, none⟩ (.int .i64 (d.life + a)) = wn1 at HS2 ⊢
 clear y1 y2 HS1
 have y1 := HS2.out.own.box.cell 18 (.int .i64 d.horizon) rfl
 have y2 := HS2.out.own.box.frozen 18
 have HS3 := hide (HS2.out.setN 18 (.int .i64 (d.horizon + a)) { d with life := d.life + a, horizon := d.horizon + a } rfl ⟨rfl, rfl⟩ ⟨rfl, rfl⟩ ⟨rfl, rfl⟩ ⟨rfl, rfl⟩)
 go_upto_region 6 with (fail)
 generalize wn1.setCell ⟨b8, 18, none⟩ (.int .i64 (d.horizon + a)) = wn2 at HS3 ⊢
 clear y1 y2 HS2
 have y1 := HS3.out.own.box.cell 14 (.int .i64 d.wait) rfl
 have y2 := HS3.out.own.box.frozen 14
 have HS4 := hide (HS3.out.setN 14 (.int .i64 (min (d.wait + a) 50)) { d with life := d.life + a, horizon := d.horizon + a, wait := min (d.wait + a) 50 } rfl ⟨rfl, rfl⟩ ⟨rfl, rfl⟩ ⟨rfl, rfl⟩ ⟨rfl, rfl⟩)
 go_upto_region 7 with (fail)
 generalize wn2.setCell ⟨b8, 14, none⟩ (.int .i64 (min (d.wait + a) 50)) = wn3 at HS4 ⊢
 clear y1 y2 HS3
 have hmc : ({ d with life := d.life + a, horizon := d.horizon + a, wait := min (d.wait + a) 50, R := d.R.map (ruleK a) } : ConfD) = moreC a d := rfl
 obtain ⟨d3, hd3⟩ : ∃ x : ConfD, { d with life := d.life + a, horizon := d.horizon + a, wait := min (d.wait + a) 50 } = x := ⟨_, rfl⟩
 have hs := HS4.out
 rw [hd3] at hs
 have HS := hide hs
 have eR : d3.R = d.R := by rw [← hd3]
 have hm3 : { d3 with R := d3.R.map (ruleK a) } = moreC a d := by rw [← hmc, ← hd3]
 have hl3 : d3.R.length ≤ 20 := by rw [eR]; exact chk_R HDG.out.1
 have hq3 : ∀ r ∈ d3.R, 5 ≤ r.q0 ∧ r.q0 ≤ 200 := by rw [eR]; exact HQQ.out.1
 have HM3 := hide hm3
 have HL3 := hide hl3
 have HQ3 := hide hq3
 obtain ⟨ra, rc, hrv⟩ := owns_shape hs.own.own.r
 have HRV := hide hrv
 clear hs hmc eR hm3 hl3 hq3 hrv hwa hwb hwc hd3 HS4
 go_wp2_with fail
 go_loopw [10] (fun v10 wr => ∃ k : Nat, k ≤ d3.R.length ∧ v10 = .int .i64 k ∧ Hid (DS W2 wr b8 { d3 with R := partI (fun _ => ruleK a) d3.R k })) (fun k _ => d3.R.length - (intOf k).toNat)
 case atStart => exact ⟨0, Nat.zero_le _, rfl, hide (by rw [partI_zero]; exact HS.out)⟩
 case round =>
  obtain ⟨k, hk, rfl, hcs⟩ := hrel
  have HCk := hide hcs.out
  clear hcs
  have hz2 : wr.cell? ⟨b8, 2, none⟩ = some (.slice ra d3.R.length rc) := HCk.out.own.box.cell 2 _ (by show some d3.rv = _; rw [HRV.out])
  by_cases hlt : k < d3.R.length
  ·have hltz : (k : Int) < d3.R.length := by omega
   have hwk : IntKind.i64.wrap ((k : Int) + 1) = ((k + 1 : Nat) : Int) := by have := HL3.out; rw [IntKind.wrap_i64]; omega
   obtain ⟨g, cap, hgv, hgg⟩ := owns_block (show wr.ownsRow W2.heap.size _ 19 d3.rv (partI (fun _ => ruleK a) d3.R k).length _ from HCk.out.own.own.r) (by rw [partI_len]; omega)
   rw [partI_len] at hgv
   have hra : ra = some ⟨g, 0, none⟩ ∧ rc = cap := by
    have := HRV.out.symm.trans hgv
    injection this with h1 h2 h3
    exact ⟨h1, h3⟩
   obtain ⟨rfl, rfl⟩ := hra
   have hlen : (partI (fun _ => ruleK a) d3.R k).length = d3.R.length := partI_len _ _ _
   have hkl : k < (partI (fun _ => ruleK a) d3.R k).length := by rw [hlen]; exact hlt
   have hc1 : DS W2 wr b8 { d3 with R := (partI (fun _ => ruleK a) d3.R k).set k d3.R[k] } := by
    rw [← partI_at (fun _ => ruleK a) d3.R hlt, set_self _ hkl]
    exact HCk.out
   have hnext := partI_next (fun _ => ruleK a) d3.R hlt
   have hxq := HQ3.out d3.R[k] (List.getElem_mem hlt)
   obtain ⟨x, hx⟩ : ∃ x, d3.R[k] = x := ⟨_, rfl⟩
   rw [hx] at hc1 hnext hxq
   have HNX := hide hnext
   generalize partI (fun _ => ruleK a) d3.R k = LK at hc1 hlen hkl HNX
   have HQX := hide (show encR (ruleK a x) = (encR x).set 11 (.int .i64 (x.q0 + a)) from rfl)
   have hce := fun X (hX : Ext wr X) => (hc1.to hX).cellR (g := g) (cap := rc) hgv hlen hkl 11 (.int .i64 x.q0) rfl
   generalize hz : x.q0 = z at hxq HQX hce
   have hwz : IntKind.i64.wrap (z + a) = z + a := by have := HAB.out; rw [IntKind.wrap_i64]; omega
   have HQ0 := hide (fun X (hX : Ext wr X) => (hce X hX).1)
   have HQF := hide (fun X (hX : Ext wr X) => (hce X hX).2)
   have HRVC := hide (fun X (hX : Ext wr X) => cell_ext hX hz2)
   have HK1 := hide hc1
   have HLN := hide hlen
   have HKL := hide hkl
   have HGG := hide hgg
   have HGV := hide hgv
   clear hc1 hlen hkl hgg hgv hx hnext HCk hce hxq hz
   go_upto_region 10 with (fail)
   refine wp_region_rwz 134 [15] [47, 48, 49, 50, 51, 52, 53, 54, 55, 56, 57, 58, 59, 60, 61] (PhG0 wr ⟨g, k * 19 + 11, none⟩ (.int .i64 (z + a))) (fun (t : Nat) (wI : World) (v : Value) => match t with | 47 => v = (.pointer (some ⟨b8, 2, none⟩)) | 48 => v = (.slice (some ⟨g, 0, none⟩) d3.R.length rc) | 49 => v = (.int .i64 (k : Int)) | 50 => v = (.pointer (some ⟨b8, 2, none⟩)) | 51 => v = (.slice (some ⟨g, 0, none⟩) d3.R.length rc) | 52 => v = (.int .i64 (k : Int)) | 53 => v = (.pointer (some ⟨g, k * 19, none⟩)) | 54 => v = (.pointer (some ⟨g, k * 19 + 11, none⟩)) | 55 => v = (.pointer (some ⟨g, k * 19 + 11, none⟩)) | 56 => v = (.int .i64 z) | 57 => v = (.int .i64 a) | 58 => v = (.int .i64 (z + a)) | 59 => v = (.pointer (some ⟨g, k * 19, none⟩)) | 60 => v = (.pointer (some ⟨g, k * 19 + 11, none⟩)) | 61 => v = (.pointer (some ⟨g, k * 19 + 11, none⟩)) | _ => True) (fun _ _ => True) (by kernel_rfl) rfl (by kernel_rfl) (by kernel_rfl) (by kernel_rfl) (by kernel_rfl) ?_ ?_ ?_ ?_ ?_ ?_ ?_
   ·intro w' w'' h
    trivial
   ·intro t w' w'' v hR hv
    exact hv
   ·intro vs w' w'' h e
    exact h.keep e
   ·exact (Below.refl _ _).drew
   ·intro i o ho hmi vs X w' hpk hph hX hI hF K hK
    have hin : i < 16 := (Array.getElem?_eq_some_iff.1 ho).1
    have hi : i = 0 ∨ i = 1 ∨ i = 2 ∨ i = 3 ∨ i = 4 ∨ i = 5 ∨ i = 6 ∨ i = 7 ∨ i = 8 ∨ i = 9 ∨ i = 10 ∨ i = 11 ∨ i = 12 ∨ i = 13 ∨ i = 14 ∨ i = 15 := by omega
    rcases hi with rfl | rfl | rfl | rfl | rfl | rfl | rfl | rfl | rfl | rfl | rfl | rfl | rfl | rfl | rfl | rfl
    ·obtain rfl := Option.some.inj ho
     have e8 : X 8 = (.pointer (some ⟨b8, 0, none⟩)) := hF 8 (by kernel_rfl)
     unfold wpOp
     simp only [ho]
     rw [if_pos (by rfl)]
     left
     rw [frame134]
     go_simp
     refine metK (hK.out ((.pointer (some ⟨b8, 2, none⟩))) _ (Below.refl _ _) (fun d hd => by cases hd; exact rfl)) ?_
     simp [frame134, Act.put, *]
    ·obtain rfl := Option.some.inj ho
     have e47 : X 47 = _ := hI 47 (by kernel_rfl) (by kernel_rfl)
     have hx := hph.x ((hpk 0 (by decide)).2 (by kernel_rfl))
     have q := HRVC.out w' hx
     unfold wpOp
     simp only [ho]
     rw [if_pos (by rfl)]
     left
     rw [frame134]
     go_simp
     refine metK (hK.out ((.slice (some ⟨g, 0, none⟩) d3.R.length rc)) _ (Below.refl _ _) (fun d hd => by cases hd; exact rfl)) ?_
     simp [frame134, Act.put, *]
    ·obtain rfl := Option.some.inj ho
     have e10 : X 10 = (.int .i64 (k : Int)) := hF 10 (by kernel_rfl)
     unfold wpOp
     simp only [ho]
     rw [if_pos (by rfl)]
     left
     rw [frame134]
     go_simp
     refine metK (hK.out ((.int .i64 (k : Int))) _ (Below.refl _ _) (fun d hd => by cases hd; exact rfl)) ?_
     simp [frame134, Act.put, *]
    ·obtain rfl := Option.some.inj ho
     have e8 : X 8 = (.pointer (some ⟨b8, 0, none⟩)) := hF 8 (by kernel_rfl)
     unfold wpOp
     simp only [ho]
     rw [if_pos (by rfl)]
     left
     rw [frame134]
     go_simp
     refine metK (hK.out ((.pointer (some ⟨b8, 2, none⟩))) _ (Below.refl _ _) (fun d hd => by cases hd; exact rfl)) ?_
     simp [frame134, Act.put, *]
    ·obtain rfl := Option.some.inj ho
     have e50 : X 50 = _ := hI 50 (by kernel_rfl) (by kernel_rfl)
     have hx := hph.x ((hpk 0 (by decide)).2 (by kernel_rfl))
     have q := HRVC.out w' hx
     unfold wpOp
     simp only [ho]
     rw [if_pos (by rfl)]
     left
     rw [frame134]
     go_simp
     refine metK (hK.out ((.slice (some ⟨g, 0, none⟩) d3.R.length rc)) _ (Below.refl _ _) (fun d hd => by cases hd; exact rfl)) ?_
     simp [frame134, Act.put, *]
    ·obtain rfl := Option.some.inj ho
     have e10 : X 10 = (.int .i64 (k : Int)) := hF 10 (by kernel_rfl)
     unfold wpOp
     simp only [ho]
     rw [if_pos (by rfl)]
     left
     rw [frame134]
     go_simp
     refine metK (hK.out ((.int .i64 (k : Int))) _ (Below.refl _ _) (fun d hd => by cases hd; exact rfl)) ?_
     simp [frame134, Act.put, *]
    ·obtain rfl := Option.some.inj ho
     have e51 : X 51 = _ := hI 51 (by kernel_rfl) (by kernel_rfl)
     have e52 : X 52 = _ := hI 52 (by kernel_rfl) (by kernel_rfl)
     unfold wpOp
     simp only [ho]
     rw [if_pos (by rfl)]
     left
     rw [frame134]
     go_simp
     refine metK (hK.out ((.pointer (some ⟨g, k * 19, none⟩))) _ (Below.refl _ _) (fun d hd => by cases hd; exact rfl)) ?_
     simp [frame134, Act.put, *]
    ·obtain rfl := Option.some.inj ho
     have e53 : X 53 = _ := hI 53 (by kernel_rfl) (by kernel_rfl)
     unfold wpOp
     simp only [ho]
     rw [if_pos (by rfl)]
     left
     rw [frame134]
     go_simp
     refine metK (hK.out ((.pointer (some ⟨g, k * 19 + 11, none⟩))) _ (Below.refl _ _) (fun d hd => by cases hd; exact rfl)) ?_
     simp [frame134, Act.put, *]
    ·obtain rfl := Option.some.inj ho
     have e54 : X 54 = _ := hI 54 (by kernel_rfl) (by kernel_rfl)
     unfold wpOp
     simp only [ho]
     rw [if_pos (by rfl)]
     left
     rw [frame134]
     go_simp
     refine metK (hK.out ((.pointer (some ⟨g, k * 19 + 11, none⟩))) _ (Below.refl _ _) (fun d hd => by cases hd; exact rfl)) ?_
     simp [frame134, Act.put, *]
    ·obtain rfl := Option.some.inj ho
     have e55 : X 55 = _ := hI 55 (by kernel_rfl) (by kernel_rfl)
     have hx := hph.x ((hpk 0 (by decide)).2 (by kernel_rfl))
     have q := HQ0.out w' hx
     unfold wpOp
     simp only [ho]
     rw [if_pos (by rfl)]
     left
     rw [frame134]
     go_simp
     refine metK (hK.out ((.int .i64 z)) _ (Below.refl _ _) (fun d hd => by cases hd; exact rfl)) ?_
     simp [frame134, Act.put, *]
    ·obtain rfl := Option.some.inj ho
     have e9 : X 9 = (.int .i64 a) := hF 9 (by kernel_rfl)
     unfold wpOp
     simp only [ho]
     rw [if_pos (by rfl)]
     left
     rw [frame134]
     go_simp
     refine metK (hK.out ((.int .i64 a)) _ (Below.refl _ _) (fun d hd => by cases hd; exact rfl)) ?_
     simp [frame134, Act.put, *]
    ·obtain rfl := Option.some.inj ho
     have e56 : X 56 = _ := hI 56 (by kernel_rfl) (by kernel_rfl)
     have e57 : X 57 = _ := hI 57 (by kernel_rfl) (by kernel_rfl)
     unfold wpOp
     simp only [ho]
     rw [if_pos (by rfl)]
     left
     rw [frame134]
     go_simp
     refine metK (hK.out ((.int .i64 (z + a))) _ (Below.refl _ _) (fun d hd => by cases hd; exact rfl)) ?_
     simp [frame134, Act.put, *]
    ·obtain rfl := Option.some.inj ho
     have e48 : X 48 = _ := hI 48 (by kernel_rfl) (by kernel_rfl)
     have e49 : X 49 = _ := hI 49 (by kernel_rfl) (by kernel_rfl)
     unfold wpOp
     simp only [ho]
     rw [if_pos (by rfl)]
     left
     rw [frame134]
     go_simp
     refine metK (hK.out ((.pointer (some ⟨g, k * 19, none⟩))) _ (Below.refl _ _) (fun d hd => by cases hd; exact rfl)) ?_
     simp [frame134, Act.put, *]
    ·obtain rfl := Option.some.inj ho
     have e59 : X 59 = _ := hI 59 (by kernel_rfl) (by kernel_rfl)
     unfold wpOp
     simp only [ho]
     rw [if_pos (by rfl)]
     left
     rw [frame134]
     go_simp
     refine metK (hK.out ((.pointer (some ⟨g, k * 19 + 11, none⟩))) _ (Below.refl _ _) (fun d hd => by cases hd; exact rfl)) ?_
     simp [frame134, Act.put, *]
    ·obtain rfl := Option.some.inj ho
     have e60 : X 60 = _ := hI 60 (by kernel_rfl) (by kernel_rfl)
     unfold wpOp
     simp only [ho]
     rw [if_pos (by rfl)]
     left
     rw [frame134]
     go_simp
     refine metK (hK.out ((.pointer (some ⟨g, k * 19 + 11, none⟩))) _ (Below.refl _ _) (fun d hd => by cases hd; exact rfl)) ?_
     simp [frame134, Act.put, *]
    ·exact absurd hmi (by decide)
   ·intro i o ho hmi vs X w' hqi hql hph hX hI hF K hK
    rcases vs with _ | ⟨v0, _⟩
    ·obtain rfl : 15 = i := hqi
     obtain rfl := Option.some.inj ho
     have e58 : X 58 = _ := hI 58 (by kernel_rfl) (by kernel_rfl)
     have e61 : X 61 = _ := hI 61 (by kernel_rfl) (by kernel_rfl)
     have hx : Ext wr w' := hph
     have q1 := HQ0.out w' hx
     have q2 := HQF.out w' hx
     unfold wpOp
     simp only [ho]
     rw [if_pos (by rfl)]
     left
     rw [frame134]
     go_simp
     refine metK (hK.out undef _ ⟨w', hx, Below.refl _ _⟩ trivial) ?_
     simp [frame134, Act.put, *]
    ·simp at hql <;> omega
   ·intro vs X w' hlen hph hX hI
    have e47 : X 47 = _ := hI 47 (by omega) (by kernel_rfl) (by kernel_rfl)
    have e48 : X 48 = _ := hI 48 (by omega) (by kernel_rfl) (by kernel_rfl)
    have e49 : X 49 = _ := hI 49 (by omega) (by kernel_rfl) (by kernel_rfl)
    have e50 : X 50 = _ := hI 50 (by omega) (by kernel_rfl) (by kernel_rfl)
    have e51 : X 51 = _ := hI 51 (by omega) (by kernel_rfl) (by kernel_rfl)
    have e52 : X 52 = _ := hI 52 (by omega) (by kernel_rfl) (by kernel_rfl)
    have e53 : X 53 = _ := hI 53 (by omega) (by kernel_rfl) (by kernel_rfl)
    have e54 : X 54 = _ := hI 54 (by omega) (by kernel_rfl) (by kernel_rfl)
    have e55 : X 55 = _ := hI 55 (by omega) (by kernel_rfl) (by kernel_rfl)
    have e56 : X 56 = _ := hI 56 (by omega) (by kernel_rfl) (by kernel_rfl)
    have e57 : X 57 = _ := hI 57 (by omega) (by kernel_rfl) (by kernel_rfl)
    have e58 : X 58 = _ := hI 58 (by omega) (by kernel_rfl) (by kernel_rfl)
    have e59 : X 59 = _ := hI 59 (by omega) (by kernel_rfl) (by kernel_rfl)
    have e60 : X 60 = _ := hI 60 (by omega) (by kernel_rfl) (by kernel_rfl)
    have e61 : X 61 = _ := hI 61 (by omega) (by kernel_rfl) (by kernel_rfl)
    rcases vs with _ | ⟨v0, _ | ⟨vz, vs⟩⟩
    ·simp at hlen
    rotate_left
    ·simp at hlen
    clear hX hI hlen
    simp only [overF, List.foldl_cons, List.foldl_nil, List.setIfInBounds_toArray, List.set_cons_succ, List.set_cons_zero, e47, e48, e49, e50, e51, e52, e53, e54, e55, e56, e57, e58, e59, e60, e61]
    obtain ⟨w8, E8, E9⟩ := hph
    have hk8 := HK1.out.to E8
    have hn := (hk8.setRk HGV.out HLN.out HKL.out HGG.out 11 (by decide) (.int .i64 (z + a)) (ruleK a x) HQX.out (fun h => h)).to E9
    have HK2 := hide hn
    clear hk8 hn E8 E9 e47 e48 e49 e50 e51 e52 e53 e54 e55 e56 e57 e58 e59 e60 e61
    generalize w' = W9 at *
    go_wp2
    go_roundw
    case rel => exact ⟨k + 1, hlt, by go_num, hide (by rw [← HNX.out]; exact HK2.out)⟩
    case measure => simp [intOf]; omega
  ·obtain rfl : k = d3.R.length := by omega
   have hltz : ¬ (d3.R.length : Int) < d3.R.length := by omega
   have h1 := HCk.out
   rw [partI_all, mapIdx_const, HM3.out] at h1
   obtain ⟨d4, hd4⟩ : ∃ d4 : ConfD, moreC a d = d4 := ⟨_, rfl⟩
   rw [hd4] at h1
   have hdc : chkC d4 = 0 ∧ ConfFit d4 ∧ d4.core = (moreC a c).core := by
    rw [← hd4]
    refine ⟨more_right HAB.out.1 HDG.out.1 (fun r hr => ?_) ?_ ?_, more_fit a HDG.out.2, more_core a HCO.out⟩
    ·have := HQQ.out.1 r hr
     have := HAB.out
     omega
    ·have := HQQ.out.2.1
     have := HAB.out
     omega
    ·have := HQQ.out.2.2
     have := HAB.out
     omega
   have HDC := hide hdc
   have HX4 := hide (HX2.out.trans h1.ext)
   have HE4 := hide h1.ext
   have HGD := hide (h1.own.gc (HM.out.ext HX4.out) hdc.1 hdc.2.1)
   have HGC := hide ((HO2.out.ext h1.ext).gc (HM.out.ext HX4.out) HCG.out.1 HCG.out.2)
   have hbc : BoxC wr b7 c := HO2.out.box.ext h1.ext
   have hbd : BoxC wr b8 d4 := h1.own.box
   have hgo := HO2.out.own.ext h1.ext
   obtain ⟨W4, rfl⟩ : ∃ x : World, x = wr := ⟨_, rfl⟩
   have HBC := hide (fun X (hX : Ext W4 X) => hbc.ext hX)
   have HBD := hide (fun X (hX : Ext W4 X) => hbd.ext hX)
   have HGO := hide hgo
   have hcl : c.R.length ≤ 20 := chk_R HCG.out.1
   have HCLR := hide hcl
   obtain ⟨ca, rcc, hcv⟩ := owns_shape hgo.r
   have hcrv : ∀ X, Ext W4 X → X.cell? ⟨b7, 2, none⟩ = some (.slice ca c.R.length rcc) := fun X hX => (hbc.ext hX).cell 2 _ (by show some c.rv = _; rw [hcv])
   have hcn := chk_num HCG.out.1
   have hw2 : IntKind.i64.wrap (2 * c.hop) = 2 * c.hop := by rw [IntKind.wrap_i64]; omega
   have hw3 : IntKind.i64.wrap (2 * c.hop + 3) = 2 * c.hop + 3 := by rw [IntKind.wrap_i64]; omega
   have HCH := hide (fun X (hX : Ext W4 X) => (hbc.ext hX).cell 15 (.int .i64 c.hop) rfl)
   have HCL := hide (fun X (hX : Ext W4 X) => (hbc.ext hX).cell 16 (.int .i64 c.life) rfl)
   have HCV := hide hcv
   have HCRV0 := hide hcrv
   clear h1 hdc hbc hbd hgo hcl hcv hcrv hcn hd4 HCk HDG HQQ HM3 HL3 HQ3 HRV HO2 HX2
   go_wp2_with fail
   clear hltz hz2
   go_loopw [11] (fun v11 wr => ∃ i : Nat, i ≤ c.R.length ∧ v11 = .int .i64 i ∧ Ext W4 wr) (fun i _ => c.R.length - (intOf i).toNat)
   case atStart => exact ⟨0, Nat.zero_le _, rfl, Below.refl _ _⟩
   case round =>
    obtain ⟨i, hi, rfl, hext⟩ := hrel
    have HE := hide hext
    have hz2 := HCRV0.out wr hext
    clear hext
    by_cases hlt : i < c.R.length
    ·have hltz : (i : Int) < c.R.length := by omega
     have hwi : IntKind.i64.wrap ((i : Int) + 1) = ((i + 1 : Nat) : Int) := by have := HCLR.out; rw [IntKind.wrap_i64]; omega
     obtain ⟨gr, cap, hgv, -⟩ := owns_block (show W4.ownsRow w.heap.size _ 19 c.rv c.R.length _ from HGO.out.r) (by omega)
     have hra : ca = some ⟨gr, 0, none⟩ ∧ rcc = cap := by
      have := HCV.out.symm.trans hgv
      injection this with h1 h2 h3
      exact ⟨h1, h3⟩
     obtain ⟨rfl, rfl⟩ := hra
     have hown := HGO.out.r
     rw [hgv] at hown
     have hpc : W4.cell? ⟨gr, i * 19, none⟩ = some (.string c.R[i].path) := (cell_rowG encR_len hown i hlt 0 (.string c.R[i].path) rfl).1
     have hsz : SzB c.R[i].path := (chk_paths HCG.out.1 HCG.out.2 c.R[i] (List.getElem_mem hlt)).1
     obtain ⟨tk, u, s, y, ha1, ha2, hor⟩ := ends_or HGC.out HAB.out.1 HDC.out.2.2 c.R[i].path
     generalize c.R[i].path = p at hpc hsz ha1 ha2
     have hal1 := fun X (hX : Ext W4 X) => alone_any c p X (HGC.out.ext hX) hsz
     have hal2 := fun X (hX : Ext W4 X) => alone_any d4 p X (HGD.out.ext hX) hsz
     simp only [ha1] at hal1
     simp only [ha2] at hal2
     have HA1 := hide hal1
     have HA2 := hide hal2
     have HOR := hide hor
     have HPA := hide (fun X (hX : Ext W4 X) => cell_ext hX hpc)
     have HCRV := hide HCRV0.out
     clear hal1 hal2 ha1 ha2 hor hpc hsz hown hgv
     go_upto_region 14 with (fail)
     refine wp_region_ro 134 [12, 13, 69, 70, 71, 72, 73, 74, 75, 76, 77, 78, 79, 80] (fun w' => Ext W4 w' ∧ Ext wr w') (fun (t : Nat) (wI : World) (v : Value) => match t with | 12 => v = (.int .i64 tk) | 13 => v = (.bool s) | 69 => v = (.tuple #[.int .i64 tk, .bool s]) | 70 => v = (.agg (encC c).toArray) | 71 => v = (.pointer (some ⟨b7, 2, none⟩)) | 72 => v = (.slice (some ⟨gr, 0, none⟩) c.R.length rcc) | 73 => v = (.int .i64 (i : Int)) | 74 => v = (.pointer (some ⟨gr, i * 19, none⟩)) | 75 => v = (.pointer (some ⟨gr, i * 19, none⟩)) | 76 => v = (.pointer (some ⟨gr, i * 19, none⟩)) | 77 => v = (.string p) | 78 => v = (.tuple #[.int .i64 tk, .bool s]) | 79 => v = (.int .i64 tk) | 80 => v = (.bool s) | _ => True) (by kernel_rfl) rfl (by kernel_rfl) (by kernel_rfl) (by kernel_rfl) ?_ ?_ ?_ ?_ ?_
     ·intro t w' w'' v hR hv
      exact hv
     ·intro w' w'' h e
      exact ⟨h.1.trans e, h.2.trans e⟩
     ·exact ⟨HE.out.drew, (Below.refl _ _).drew⟩
     ·intro i o ho X w' hph hI hF K hK
      have hin : i < 14 := (Array.getElem?_eq_some_iff.1 ho).1
      have hi : i = 0 ∨ i = 1 ∨ i = 2 ∨ i = 3 ∨ i = 4 ∨ i = 5 ∨ i = 6 ∨ i = 7 ∨ i = 8 ∨ i = 9 ∨ i = 10 ∨ i = 11 ∨ i = 12 ∨ i = 13 := by omega
      rcases hi with rfl | rfl | rfl | rfl | rfl | rfl | rfl | rfl | rfl | rfl | rfl | rfl | rfl | rfl
      ·obtain rfl := Option.some.inj ho
       have e7 : X 7 = (.pointer (some ⟨b7, 0, none⟩)) := hF 7 (by kernel_rfl)
       have hx : Ext W4 w' := hph.1
       unfold wpOp
       simp only [ho]
       rw [if_pos (by rfl)]
       left
       rw [frame134]
       refine wp_load_mid 30 (.tmp 7) rfl b7 0 e7 (encC c) cd (HBC.out w' hx).range hcd1 hcd2 Tryz.confSize (metK (hK.out (.agg (encC c).toArray) _ (Below.refl _ _) (fun d hd => by cases hd; exact rfl)) ?_)
       simp [frame134, Act.put, *]
      ·obtain rfl := Option.some.inj ho
       have e7 : X 7 = (.pointer (some ⟨b7, 0, none⟩)) := hF 7 (by kernel_rfl)
       unfold wpOp
       simp only [ho]
       rw [if_pos (by rfl)]
       left
       rw [frame134]
       go_simp
       refine metK (hK.out ((.pointer (some ⟨b7, 2, none⟩))) _ (Below.refl _ _) (fun d hd => by cases hd; exact rfl)) ?_
       simp [frame134, Act.put, *]
      ·obtain rfl := Option.some.inj ho
       have e71 : X 71 = _ := hI 71 (by kernel_rfl)
       have hx : Ext W4 w' := hph.1
       have q := HCRV.out w' hx
       unfold wpOp
       simp only [ho]
       rw [if_pos (by rfl)]
       left
       rw [frame134]
       go_simp
       refine metK (hK.out ((.slice (some ⟨gr, 0, none⟩) c.R.length rcc)) _ (Below.refl _ _) (fun d hd => by cases hd; exact rfl)) ?_
       simp [frame134, Act.put, *]
      ·obtain rfl := Option.some.inj ho
       have e11 : X 11 = (.int .i64 (i : Int)) := hF 11 (by kernel_rfl)
       unfold wpOp
       simp only [ho]
       rw [if_pos (by rfl)]
       left
       rw [frame134]
       go_simp
       refine metK (hK.out ((.int .i64 (i : Int))) _ (Below.refl _ _) (fun d hd => by cases hd; exact rfl)) ?_
       simp [frame134, Act.put, *]
      ·obtain rfl := Option.some.inj ho
       have e72 : X 72 = _ := hI 72 (by kernel_rfl)
       have e73 : X 73 = _ := hI 73 (by kernel_rfl)
       unfold wpOp
       simp only [ho]
       rw [if_pos (by rfl)]
       left
       rw [frame134]
       go_simp
       refine metK (hK.out ((.pointer (some ⟨gr, i * 19, none⟩))) _ (Below.refl _ _) (fun d hd => by cases hd; exact rfl)) ?_
       simp [frame134, Act.put, *]
      ·obtain rfl := Option.some.inj ho
       have e74 : X 74 = _ := hI 74 (by kernel_rfl)
       unfold wpOp
       simp only [ho]
       rw [if_pos (by rfl)]
       left
       rw [frame134]
       go_simp
       refine metK (hK.out ((.pointer (some ⟨gr, i * 19, none⟩))) _ (Below.refl _ _) (fun d hd => by cases hd; exact rfl)) ?_
       simp [frame134, Act.put, *]
      ·obtain rfl := Option.some.inj ho
       have e75 : X 75 = _ := hI 75 (by kernel_rfl)
       unfold wpOp
       simp only [ho]
       rw [if_pos (by rfl)]
       left
       rw [frame134]
       go_simp
       refine metK (hK.out ((.pointer (some ⟨gr, i * 19, none⟩))) _ (Below.refl _ _) (fun d hd => by cases hd; exact rfl)) ?_
       simp [frame134, Act.put, *]
      ·obtain rfl := Option.some.inj ho
       have e76 : X 76 = _ := hI 76 (by kernel_rfl)
       have hx : Ext W4 w' := hph.1
       have q := HPA.out w' hx
       unfold wpOp
       simp only [ho]
       rw [if_pos (by rfl)]
       left
       rw [frame134]
       go_simp
       refine metK (hK.out ((.string p)) _ (Below.refl _ _) (fun d hd => by cases hd; exact rfl)) ?_
       simp [frame134, Act.put, *]
      ·obtain rfl := Option.some.inj ho
       have e70 : X 70 = _ := hI 70 (by kernel_rfl)
       have e77 : X 77 = _ := hI 77 (by kernel_rfl)
       have hx : Ext W4 w' := hph.1
       unfold wpOp
       simp only [ho]
       rw [if_pos (by rfl)]
       left
       rw [frame134]
       go_simp
       refine (HA1.out w' hx).mono ?_
       rintro e w9 ⟨rfl, E9⟩
       refine metK (hK.out (.tuple #[.int .i64 tk, .bool s]) w9 E9 (fun d hd => by cases hd; exact rfl)) ?_
       simp [frame134, Act.put, *]
      ·obtain rfl := Option.some.inj ho
       have e78 : X 78 = _ := hI 78 (by kernel_rfl)
       unfold wpOp
       simp only [ho]
       rw [if_pos (by rfl)]
       left
       rw [frame134]
       go_simp
       refine metK (hK.out ((.tuple #[.int .i64 tk, .bool s])) _ (Below.refl _ _) (fun d hd => by cases hd; exact rfl)) ?_
       simp [frame134, Act.put, *]
      ·obtain rfl := Option.some.inj ho
       have e69 : X 69 = _ := hI 69 (by kernel_rfl)
       unfold wpOp
       simp only [ho]
       rw [if_pos (by rfl)]
       left
       rw [frame134]
       go_simp
       refine metK (hK.out ((.int .i64 tk)) _ (Below.refl _ _) (fun d hd => by cases hd; exact rfl)) ?_
       simp [frame134, Act.put, *]
      ·obtain rfl := Option.some.inj ho
       have e69 : X 69 = _ := hI 69 (by kernel_rfl)
       unfold wpOp
       simp only [ho]
       rw [if_pos (by rfl)]
       left
       rw [frame134]
       go_simp
       refine metK (hK.out ((.bool s)) _ (Below.refl _ _) (fun d hd => by cases hd; exact rfl)) ?_
       simp [frame134, Act.put, *]
      ·obtain rfl := Option.some.inj ho
       have e79 : X 79 = _ := hI 79 (by kernel_rfl)
       unfold wpOp
       simp only [ho]
       rw [if_pos (by rfl)]
       left
       rw [frame134]
       go_simp
       refine metK (hK.out ((.int .i64 tk)) _ (Below.refl _ _) (fun d hd => by cases hd; exact rfl)) ?_
       simp [frame134, Act.put, *]
      ·obtain rfl := Option.some.inj ho
       have e80 : X 80 = _ := hI 80 (by kernel_rfl)
       unfold wpOp
       simp only [ho]
       rw [if_pos (by rfl)]
       left
       rw [frame134]
       go_simp
       refine metK (hK.out ((.bool s)) _ (Below.refl _ _) (fun d hd => by cases hd; exact rfl)) ?_
       simp [frame134, Act.put, *]
     ·intro X w' hph hI
      have e12 : X 12 = _ := hI 12 (by kernel_rfl)
      have e13 : X 13 = _ := hI 13 (by kernel_rfl)
      have e69 : X 69 = _ := hI 69 (by kernel_rfl)
      have e70 : X 70 = _ := hI 70 (by kernel_rfl)
      have e71 : X 71 = _ := hI 71 (by kernel_rfl)
      have e72 : X 72 = _ := hI 72 (by kernel_rfl)
      have e73 : X 73 = _ := hI 73 (by kernel_rfl)
      have e74 : X 74 = _ := hI 74 (by kernel_rfl)
      have e75 : X 75 = _ := hI 75 (by kernel_rfl)
      have e76 : X 76 = _ := hI 76 (by kernel_rfl)
      have e77 : X 77 = _ := hI 77 (by kernel_rfl)
      have e78 : X 78 = _ := hI 78 (by kernel_rfl)
      have e79 : X 79 = _ := hI 79 (by kernel_rfl)
      have e80 : X 80 = _ := hI 80 (by kernel_rfl)
      clear hI
      simp only [overF, List.foldl_cons, List.foldl_nil, List.setIfInBounds_toArray, List.set_cons_succ, List.set_cons_zero, e12, e13, e69, e70, e71, e72, e73, e74, e75, e76, e77, e78, e79, e80]
      obtain ⟨hx1, hx2⟩ := hph
      have HE6 := hide hx1
      clear hx1 hx2 e69 e70 e71 e72 e73 e74 e75 e76 e77 e78 e79 e80
      generalize w' = W6 at *
      go_upto_region 15 with (fail)
      refine wp_region_ro 134 [14, 15, 81, 82, 83, 84, 85, 86, 87, 88, 89, 90, 91, 92] (fun w' => Ext W4 w' ∧ Ext W6 w') (fun (t : Nat) (wI : World) (v : Value) => match t with | 14 => v = (.int .i64 u) | 15 => v = (.bool y) | 81 => v = (.tuple #[.int .i64 u, .bool y]) | 82 => v = (.agg (encC d4).toArray) | 83 => v = (.pointer (some ⟨b7, 2, none⟩)) | 84 => v = (.slice (some ⟨gr, 0, none⟩) c.R.length rcc) | 85 => v = (.int .i64 (i : Int)) | 86 => v = (.pointer (some ⟨gr, i * 19, none⟩)) | 87 => v = (.pointer (some ⟨gr, i * 19, none⟩)) | 88 => v = (.pointer (some ⟨gr, i * 19, none⟩)) | 89 => v = (.string p) | 90 => v = (.tuple #[.int .i64 u, .bool y]) | 91 => v = (.int .i64 u) | 92 => v = (.bool y) | _ => True) (by kernel_rfl) rfl (by kernel_rfl) (by kernel_rfl) (by kernel_rfl) ?_ ?_ ?_ ?_ ?_
      ·intro t w' w'' v hR hv
       exact hv
      ·intro w' w'' h e
       exact ⟨h.1.trans e, h.2.trans e⟩
      ·exact ⟨HE6.out.drew, (Below.refl _ _).drew⟩
      ·intro i o ho X w' hph hI hF K hK
       have hin : i < 14 := (Array.getElem?_eq_some_iff.1 ho).1
       have hi : i = 0 ∨ i = 1 ∨ i = 2 ∨ i = 3 ∨ i = 4 ∨ i = 5 ∨ i = 6 ∨ i = 7 ∨ i = 8 ∨ i = 9 ∨ i = 10 ∨ i = 11 ∨ i = 12 ∨ i = 13 := by omega
       rcases hi with rfl | rfl | rfl | rfl | rfl | rfl | rfl | rfl | rfl | rfl | rfl | rfl | rfl | rfl
       ·obtain rfl := Option.some.inj ho
        have e8 : X 8 = (.pointer (some ⟨b8, 0, none⟩)) := hF 8 (by kernel_rfl)
        have hx : Ext W4 w' := hph.1
        unfold wpOp
        simp only [ho]
        rw [if_pos (by rfl)]
        left
        rw [frame134]
        refine wp_load_mid 30 (.tmp 8) rfl b8 0 e8 (encC d4) cd (HBD.out w' hx).range hcd1 hcd2 Tryz.confSize (metK (hK.out (.agg (encC d4).toArray) _ (Below.refl _ _) (fun d hd => by cases hd; exact rfl)) ?_)
        simp [frame134, Act.put, *]
       ·obtain rfl := Option.some.inj ho
        have e7 : X 7 = (.pointer (some ⟨b7, 0, none⟩)) := hF 7 (by kernel_rfl)
        unfold wpOp
        simp only [ho]
        rw [if_pos (by rfl)]
        left
        rw [frame134]
        go_simp
        refine metK (hK.out ((.pointer (some ⟨b7, 2, none⟩))) _ (Below.refl _ _) (fun d hd => by cases hd; exact rfl)) ?_
        simp [frame134, Act.put, *]
       ·obtain rfl := Option.some.inj ho
        have e83 : X 83 = _ := hI 83 (by kernel_rfl)
        have hx : Ext W4 w' := hph.1
        have q := HCRV.out w' hx
        unfold wpOp
        simp only [ho]
        rw [if_pos (by rfl)]
        left
        rw [frame134]
        go_simp
        refine metK (hK.out ((.slice (some ⟨gr, 0, none⟩) c.R.length rcc)) _ (Below.refl _ _) (fun d hd => by cases hd; exact rfl)) ?_
        simp [frame134, Act.put, *]
       ·obtain rfl := Option.some.inj ho
        have e11 : X 11 = (.int .i64 (i : Int)) := hF 11 (by kernel_rfl)
        unfold wpOp
        simp only [ho]
        rw [if_pos (by rfl)]
        left
        rw [frame134]
        go_simp
        refine metK (hK.out ((.int .i64 (i : Int))) _ (Below.refl _ _) (fun d hd => by cases hd; exact rfl)) ?_
        simp [frame134, Act.put, *]
       ·obtain rfl := Option.some.inj ho
        have e84 : X 84 = _ := hI 84 (by kernel_rfl)
        have e85 : X 85 = _ := hI 85 (by kernel_rfl)
        unfold wpOp
        simp only [ho]
        rw [if_pos (by rfl)]
        left
        rw [frame134]
        go_simp
        refine metK (hK.out ((.pointer (some ⟨gr, i * 19, none⟩))) _ (Below.refl _ _) (fun d hd => by cases hd; exact rfl)) ?_
        simp [frame134, Act.put, *]
       ·obtain rfl := Option.some.inj ho
        have e86 : X 86 = _ := hI 86 (by kernel_rfl)
        unfold wpOp
        simp only [ho]
        rw [if_pos (by rfl)]
        left
        rw [frame134]
        go_simp
        refine metK (hK.out ((.pointer (some ⟨gr, i * 19, none⟩))) _ (Below.refl _ _) (fun d hd => by cases hd; exact rfl)) ?_
        simp [frame134, Act.put, *]
       ·obtain rfl := Option.some.inj ho
        have e87 : X 87 = _ := hI 87 (by kernel_rfl)
        unfold wpOp
        simp only [ho]
        rw [if_pos (by rfl)]
        left
        rw [frame134]
        go_simp
        refine metK (hK.out ((.pointer (some ⟨gr, i * 19, none⟩))) _ (Below.refl _ _) (fun d hd => by cases hd; exact rfl)) ?_
        simp [frame134, Act.put, *]
       ·obtain rfl := Option.some.inj ho
        have e88 : X 88 = _ := hI 88 (by kernel_rfl)
        have hx : Ext W4 w' := hph.1
        have q := HPA.out w' hx
        unfold wpOp
        simp only [ho]
        rw [if_pos (by rfl)]
        left
        rw [frame134]
        go_simp
        refine metK (hK.out ((.string p)) _ (Below.refl _ _) (fun d hd => by cases hd; exact rfl)) ?_
        simp [frame134, Act.put, *]
       ·obtain rfl := Option.some.inj ho
        have e82 : X 82 = _ := hI 82 (by kernel_rfl)
        have e89 : X 89 = _ := hI 89 (by kernel_rfl)
        have hx : Ext W4 w' := hph.1
        unfold wpOp
        simp only [ho]
        rw [if_pos (by rfl)]
        left
        rw [frame134]
        go_simp
        refine (HA2.out w' hx).mono ?_
        rintro e w9 ⟨rfl, E9⟩
        refine metK (hK.out (.tuple #[.int .i64 u, .bool y]) w9 E9 (fun d hd => by cases hd; exact rfl)) ?_
        simp [frame134, Act.put, *]
       ·obtain rfl := Option.some.inj ho
        have e90 : X 90 = _ := hI 90 (by kernel_rfl)
        unfold wpOp
        simp only [ho]
        rw [if_pos (by rfl)]
        left
        rw [frame134]
        go_simp
        refine metK (hK.out ((.tuple #[.int .i64 u, .bool y])) _ (Below.refl _ _) (fun d hd => by cases hd; exact rfl)) ?_
        simp [frame134, Act.put, *]
       ·obtain rfl := Option.some.inj ho
        have e81 : X 81 = _ := hI 81 (by kernel_rfl)
        unfold wpOp
        simp only [ho]
        rw [if_pos (by rfl)]
        left
        rw [frame134]
        go_simp
        refine metK (hK.out ((.int .i64 u)) _ (Below.refl _ _) (fun d hd => by cases hd; exact rfl)) ?_
        simp [frame134, Act.put, *]
       ·obtain rfl := Option.some.inj ho
        have e81 : X 81 = _ := hI 81 (by kernel_rfl)
        unfold wpOp
        simp only [ho]
        rw [if_pos (by rfl)]
        left
        rw [frame134]
        go_simp
        refine metK (hK.out ((.bool y)) _ (Below.refl _ _) (fun d hd => by cases hd; exact rfl)) ?_
        simp [frame134, Act.put, *]
       ·obtain rfl := Option.some.inj ho
        have e91 : X 91 = _ := hI 91 (by kernel_rfl)
        unfold wpOp
        simp only [ho]
        rw [if_pos (by rfl)]
        left
        rw [frame134]
        go_simp
        refine metK (hK.out ((.int .i64 u)) _ (Below.refl _ _) (fun d hd => by cases hd; exact rfl)) ?_
        simp [frame134, Act.put, *]
       ·obtain rfl := Option.some.inj ho
        have e92 : X 92 = _ := hI 92 (by kernel_rfl)
        unfold wpOp
        simp only [ho]
        rw [if_pos (by rfl)]
        left
        rw [frame134]
        go_simp
        refine metK (hK.out ((.bool y)) _ (Below.refl _ _) (fun d hd => by cases hd; exact rfl)) ?_
        simp [frame134, Act.put, *]
      ·intro X w' hph hI
       have e14 : X 14 = _ := hI 14 (by kernel_rfl)
       have e15 : X 15 = _ := hI 15 (by kernel_rfl)
       have e81 : X 81 = _ := hI 81 (by kernel_rfl)
       have e82 : X 82 = _ := hI 82 (by kernel_rfl)
       have e83 : X 83 = _ := hI 83 (by kernel_rfl)
       have e84 : X 84 = _ := hI 84 (by kernel_rfl)
       have e85 : X 85 = _ := hI 85 (by kernel_rfl)
       have e86 : X 86 = _ := hI 86 (by kernel_rfl)
       have e87 : X 87 = _ := hI 87 (by kernel_rfl)
       have e88 : X 88 = _ := hI 88 (by kernel_rfl)
       have e89 : X 89 = _ := hI 89 (by kernel_rfl)
       have e90 : X 90 = _ := hI 90 (by kernel_rfl)
       have e91 : X 91 = _ := hI 91 (by kernel_rfl)
       have e92 : X 92 = _ := hI 92 (by kernel_rfl)
       clear hI
       simp only [overF, List.foldl_cons, List.foldl_nil, List.setIfInBounds_toArray, List.set_cons_succ, List.set_cons_zero, e14, e15, e81, e82, e83, e84, e85, e86, e87, e88, e89, e90, e91, e92]
       obtain ⟨hx1, hx2⟩ := hph
       have HE7 := hide hx1
       clear hx1 hx2 e81 e82 e83 e84 e85 e86 e87 e88 e89 e90 e91 e92
       generalize w' = W7 at *
       have q1 := HCH.out W7 HE7.out
       have q2 := HCL.out W7 HE7.out
       rcases HOR.out with ⟨rfl, h1, h2, rfl, rfl⟩ | ⟨rfl, rfl⟩
       ·have hd1 : decide (tk < 2 * c.hop + 3) = false := decide_eq_false (by omega)
        have hd2 : decide (c.life < tk) = false := decide_eq_false (by omega)
        have hd3 : (tk != tk) = false := by simp
        have hd4 : ¬ tk < 2 * c.hop + 3 := by omega
        have hd5 : ¬ c.life < tk := by omega
        clear h1 h2
        go_wp2
        go_roundw
        case rel => exact ⟨i + 1, hlt, by go_num, HE7.out⟩
        case measure => simp [intOf]; omega
       ·go_wp2
        go_roundw
        case rel => exact ⟨i + 1, hlt, by go_num, HE7.out⟩
        case measure => simp [intOf]; omega
    ·obtain rfl : i = c.R.length := by omega
     have hltz : ¬ (c.R.length : Int) < c.R.length := by omega
     have hbx := HBC.out wr HE.out
     have hgc := HGC.out.ext HE.out
     go_wp2_with (first | (refine BigFrame.wpList_want (by rfl) fun K hK => ?_; refine wp_load_mid 30 (.tmp 7) rfl b7 0 rfl (encC c) cd hbx.range hcd1 hcd2 Tryz.confSize ?_; refine hK _ _ ?_; simp only [Act.put]))
     refine (check_any c wr hgc.mx hgc.ok hgc.fit).mono ?_
     rintro e w7 ⟨rfl, E7⟩
     rw [hgc.chk]
     have HE7 := hide (HE.out.trans E7)
     have hby := HBD.out w7 HE7.out
     have hgd := HGD.out.ext HE7.out
     clear E7 hbx hgc hz2
     go_wp2_with (first | (refine BigFrame.wpList_want (by rfl) fun K hK => ?_; refine wp_load_mid 30 (.tmp 8) rfl b8 0 rfl (encC d4) cd hby.range hcd1 hcd2 Tryz.confSize ?_; refine hK _ _ ?_; simp only [Act.put]))
     refine (check_any d4 w7 hgd.mx hgd.ok hgd.fit).mono ?_
     rintro e w8 ⟨rfl, E8⟩
     rw [hgd.chk]
     have HE8 := hide (HE7.out.trans E8)
     clear E8 hby hgd
     go_wp2_with fail
     refine (lives33_any w8 (HM.out.ext (HX4.out.trans HE8.out))).mono ?_
     rintro e w9 ⟨rfl, E9⟩
     have HZ := hide (HX4.out.trans (HE8.out.trans E9))
     clear E9
     go_wp2_with fail
     go_ret
     exact ⟨rfl, HZ.out⟩
end Go.Proofs.YtceaeiaoanhlnaaGreatDoor
