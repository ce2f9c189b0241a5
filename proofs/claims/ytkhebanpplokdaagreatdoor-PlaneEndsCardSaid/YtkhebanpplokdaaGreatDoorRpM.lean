import Derived.Test.YtkhebanpplokdaaGreatDoorRpK
import Derived.Test.YtkhebanpplokdaaGreatDoorZpw
import Derived.Test.YtkhebanpplokdaaGreatDoorZrw
namespace Go.Proofs.YtkhebanpplokdaaGreatDoor
open Go.ChangeShapes Go.WideShapes Go.ChangeAt Go.RowKit Go.Lib Go.Shelf Go.Maps
set_option maxRecDepth 100000 in
theorem frame99 (x : Nat → Value) : frameOf 99 x = #[x 0, x 1, x 2, x 3, x 4, x 5, x 6, x 7, x 8, x 9, x 10, x 11, x 12, x 13, x 14, x 15, x 16, x 17, x 18, x 19, x 20, x 21, x 22, x 23, x 24, x 25, x 26, x 27, x 28, x 29, x 30, x 31, x 32, x 33, x 34, x 35, x 36, x 37, x 38, x 39, x 40, x 41, x 42, x 43, x 44, x 45, x 46, x 47, x 48, x 49, x 50, x 51, x 52, x 53, x 54, x 55, x 56, x 57, x 58, x 59, x 60, x 61, x 62, x 63, x 64, x 65, x 66, x 67, x 68, x 69, x 70, x 71, x 72, x 73, x 74, x 75, x 76, x 77, x 78, x 79, x 80, x 81, x 82, x 83, x 84, x 85, x 86, x 87, x 88, x 89, x 90, x 91, x 92, x 93, x 94, x 95, x 96, x 97, x 98] := rfl
/-- what stands behind an act -/
def EndQ (B N : Nat) (W : World) (p bm : Nat) (l9 : Value) (pl' : PlD) (L' : List VerD) (w' : World) : Prop := pl'.k = 3 ∧ Pl B (N + 1) w' p bm pl' ∧ VersAt w' l9 L' ∧ FarL w' l9 L' ∧ Both pl' L' (N + 1) ∧ KP B W w'
def PhEn (B N : Nat) (W : World) (p bm : Nat) : List Value → World → Prop
 | [], w' => Ext W w'
 | [r], w' => ∃ l9 pl' L', r = .tuple #[.agg #[.int .i64 3, l9], .bool true] ∧ EndQ B N W p bm l9 pl' L' w'
 | r :: u :: _, w' => ∃ l9 pl' L' g, r = .tuple #[.agg #[.int .i64 3, l9], .bool true] ∧ u = .pointer (some ⟨g, 0, none⟩) ∧ pl'.k = 3 ∧ Pl B (N + 1) w' p bm pl' ∧ VersAt w' l9 L' ∧ FarL w' l9 L' ∧ Both pl' L' (N + 1) ∧ KP B W w' ∧ BoxP w' g 3 l9 ∧ W.heap.size ≤ g
section
variable {B N : Nat} {W : World} {p bm : Nat}
theorem EndQ.ext {l9 : Value} {pl' : PlD} {L' : List VerD} {w' w'' : World} (h : EndQ B N W p bm l9 pl' L' w') (e : Ext w' w'') : EndQ B N W p bm l9 pl' L' w'' :=
 ⟨h.1, h.2.1.ext e, h.2.2.1.ext e, h.2.2.2.1.ext e, h.2.2.2.2.1, h.2.2.2.2.2.trans (KP.of_ext e)⟩
theorem PhEn.ext : ∀ {vs : List Value} {w' w'' : World}, PhEn B N W p bm vs w' → Ext w' w'' → PhEn B N W p bm vs w''
 | [], _, _, h, e => Ext.trans h e
 | [_], _, _, ⟨l9, pl', L', h1, h2⟩, e => ⟨l9, pl', L', h1, h2.ext e⟩
 | _ :: _ :: _, _, _, ⟨l9, pl', L', g, h1, h2, k1, k2, k3, k4, k5, k6, k7, k8⟩, e => ⟨l9, pl', L', g, h1, h2, k1, k2.ext e, k3.ext e, k4.ext e, k5, k6.trans (KP.of_ext e), k7.ext e, k8⟩
theorem PhEn.head : ∀ {vs : List Value} {w' : World} {r : Value}, PhEn B N W p bm vs w' → vs.head? = some r → ∃ l9, r = .tuple #[.agg #[.int .i64 3, l9], .bool true]
 | [], _, _, _, e => by cases e
 | [_], _, _, ⟨l9, _, _, h1, _⟩, e => by cases e; exact ⟨l9, h1⟩
 | _ :: _ :: _, _, _, ⟨l9, _, _, _, h1, _⟩, e => by cases e; exact ⟨l9, h1⟩
theorem PhEn.size : ∀ {vs : List Value} {w' : World}, PhEn B N W p bm vs w' → W.heap.size ≤ w'.heap.size
 | [], _, h => Below.size h
 | [_], _, ⟨_, _, _, _, h2⟩ => h2.2.2.2.2.2.size
 | _ :: _ :: _, _, ⟨_, _, _, _, _, _, _, _, _, _, _, k6, _⟩ => k6.size
theorem PhEn.shape {w' : World} {l9 : Value} (h : PhEn B N W p bm [.tuple #[.agg #[.int .i64 3, l9], .bool true]] w') : ∃ a n c, l9 = .slice a n c := by
 obtain ⟨l, pl', L', h1, k1, k2, k3, -⟩ := h
 cases h1
 obtain ⟨_, a, c, h⟩ := k3.1.shape
 exact ⟨a, _, c, h⟩
theorem PhEn.not1 {vs : List Value} (h : vs.length ≤ 1) (u : Value) : ¬ vs[1]? = some u := fun e => by
 have := (List.getElem?_eq_some_iff.1 e).1
 omega
theorem KP.setNew {w' : World} (h : KP B W w') {g : Nat} (hg : W.heap.size ≤ g) (j : Nat) (u : Value) : KP B W (w'.setCell ⟨g, j, none⟩ u) := by
 have k := Keeps.of_set (X := fun q => q = g) w' g j u rfl
 exact ⟨k.os.trans h.os, k.tape.trans h.tape, k.output.trans h.output, Nat.le_trans h.size k.size, fun i hi hx => (k.block i (Nat.lt_of_lt_of_le hi h.size) (by omega)).trans (h.block i hi hx)⟩
theorem PhEn.store {w' : World} {l9 : Value} {g : Nat} (h : PhEn B N W p bm [.tuple #[.agg #[.int .i64 3, l9], .bool true]] w') (hb : BoxP w' g 0 (.slice none 0 0)) (hg : W.heap.size ≤ g) :
  PhEn B N W p bm [.tuple #[.agg #[.int .i64 3, l9], .bool true], .pointer (some ⟨g, 0, none⟩)] ((w'.setCell ⟨g, 0, none⟩ (.int .i64 3)).setCell ⟨g, 1, none⟩ l9) := by
 obtain ⟨l, pl', L', h1, k1, k2, k3, k4, k5, k6⟩ := h
 cases h1
 have hq : KQ B g w' ((w'.setCell ⟨g, 0, none⟩ (.int .i64 3)).setCell ⟨g, 1, none⟩ l9) := ((KQ.refl B g w').set 0 _).set 1 _
 have hv := k3.kq k4 hq hb.ty
 exact ⟨l9, pl', L', g, rfl, rfl, k1, Pl.setP k2 hb, hv.1, hv.2, k5, (k6.setNew hg 0 _).setNew hg 1 _, hb.both, hg⟩
end
set_option maxRecDepth 100000 in
set_option maxHeartbeats 16000000 in
theorem ends17_walk (L0 : List Int) (v : Value) (w : World) (hs : Ints w v L0) (hL : ∀ x ∈ L0, I64 x) (hm : MaxV w) :
  Calls Tryz.prog 5 #[v] w fun e w' => e = .returned (.bool true) ∧ Ext w w' := by
 obtain ⟨cd, hcd1, hcd2⟩ := Tryz.confDesc
 obtain ⟨hl63, a, cap, rfl⟩ := hs.shape
 have HM := hide hm
 have HS := hide hs
 have HL := hide hL
 clear hm hs hL
 go_enter Tryz.func5, Tryz.ntmps5
 go_wp2_with fail
 refine (pl_new 3 w (by decide)).mono ?_
 rintro e W0 ⟨p, bm, rfl, hp0, E0⟩
 have HP := hide (show Pl w.heap.size 0 W0 p bm (pl0 3) from hp0)
 have HE0 := hide E0
 clear hp0 E0
 go_wp2_with fail
 refine (conf_any [] (hide rfl) (.slice none 0 0) W0 (ints_nil _) (fun _ h => by cases h)).mono ?_
 rintro e W1 ⟨c, rfl, hc, ho, E1⟩
 have G := hide (good0 hc)
 clear hc
 have hbz := heap_alloc_new W1 (.cells #[.slice none 0 0, .slice none 0 0, .slice none 0 0, .slice none 0 0, .int .i64 0, .int .i64 0, .int .i64 0, .int .i64 0, .int .i64 0, .int .i64 0, .int .i64 0, .int .i64 0, .int .i64 0, .int .i64 0, .int .i64 0, .int .i64 0, .int .i64 0, .int .i64 0, .int .i64 0, .int .i64 0] 30)
 have hxz : Ext W1 (W1.alloc (.cells #[.slice none 0 0, .slice none 0 0, .slice none 0 0, .slice none 0 0, .int .i64 0, .int .i64 0, .int .i64 0, .int .i64 0, .int .i64 0, .int .i64 0, .int .i64 0, .int .i64 0, .int .i64 0, .int .i64 0, .int .i64 0, .int .i64 0, .int .i64 0, .int .i64 0, .int .i64 0, .int .i64 0] 30)) := (Below.refl _ _).alloc (Nat.le_refl _) _
 have hth : (W1.alloc (.cells #[.slice none 0 0, .slice none 0 0, .slice none 0 0, .slice none 0 0, .int .i64 0, .int .i64 0, .int .i64 0, .int .i64 0, .int .i64 0, .int .i64 0, .int .i64 0, .int .i64 0, .int .i64 0, .int .i64 0, .int .i64 0, .int .i64 0, .int .i64 0, .int .i64 0, .int .i64 0, .int .i64 0] 30)).there W1.heap.size 0 20 := fun q hq => by
  rw [Nat.zero_add]
  refine ⟨?_, by simp only [World.frozen?]; rw [hbz]; simp⟩
  simp only [World.cell?, hbz]
  simp [hq]
 go_upto_region 5 with (refine wpList_store_mid rfl 30 (.tmp 4) (.tmp 20) rfl W1.heap.size 0 (encC c).toArray rfl rfl hth Tryz.confSize (all_oneCell_toArray (encC_one' ho)) ?_)
 generalize W1.alloc (.cells #[.slice none 0 0, .slice none 0 0, .slice none 0 0, .slice none 0 0, .int .i64 0, .int .i64 0, .int .i64 0, .int .i64 0, .int .i64 0, .int .i64 0, .int .i64 0, .int .i64 0, .int .i64 0, .int .i64 0, .int .i64 0, .int .i64 0, .int .i64 0, .int .i64 0, .int .i64 0, .int .i64 0] 30) = Wz at hbz hxz hth ⊢
 obtain ⟨b4, hbe⟩ : ∃ b, W1.heap.size = b := ⟨_, rfl⟩
 rw [hbe] at hbz hth ⊢
 have hbb4 : w.heap.size ≤ b4 := by have := (HE0.out.trans E1).size; omega
 have hrs := World.rangeAt_setCells_same Wz b4 0 (encC c) hth
 obtain ⟨cs, hcs1, hcs2⟩ := setCells_block b4 30 (0, 0) (encC c) 0 Wz _ hbz
 have hk5 := keeps_setCells b4 (encC c) 0 Wz
 show Code.wp _ _ _ _ (Wz.setCells b4 0 (encC c))
 generalize Wz.setCells b4 0 (encC c) = W2 at hrs hk5 hcs1 ⊢
 have HB := hide (show BoxC W2 b4 c from BoxC.of_range hcs1 (by rw [hcs2]; rfl) hrs)
 have HX := hide (Keeps.ext ((HE0.out.trans E1).trans hxz) hk5 (fun g hg => by omega))
 have HO := hide (((ho).ext hxz).keepT hk5 (OfT.one hbz) (by decide) (by decide) (by decide) (by decide) (by decide) (by decide) (by decide))
 have hGb4 : W1.heap.size ≤ b4 := by omega
 have hEb4 : Ext W1 W2 := ((Keeps.of_ext hxz).trans hk5 : Keeps (fun g => g = b4) W1 W2).below (Nat.le_refl _) (fun g hg => by omega)
 clear hrs hk5 hcs1 hcs2 hbz hxz hth
 have HP2 := hide (HP.out.ext (E1.trans hEb4))
 have hB' : W0.heap.size ≤ W2.heap.size := by have := E1.size; have := hEb4.size; omega
 have HBB := hide hB'
 clear HP ho E1 hEb4 hGb4 hB' HE0
 have hxp : Ext W2 (W2.alloc (.cells #[.int .i64 3, .slice none 0 0] 55)) := (Below.refl _ _).alloc (Nat.le_refl _) _
 have hbp := heap_alloc_new W2 (.cells #[.int .i64 3, .slice none 0 0] 55)
 go_upto_region 6 with (fail)
 generalize W2.alloc (.cells #[.int .i64 3, .slice none 0 0] 55) = W3 at hxp hbp ⊢
 obtain ⟨b5, hb5⟩ : ∃ b, W2.heap.size = b := ⟨_, rfl⟩
 rw [hb5] at hbp ⊢
 have HB5 := hide (show BoxP W3 b5 3 (.slice none 0 0) from hbp)
 have HX3 := hide (HX.out.trans hxp)
 have HP3 := hide (HP2.out.ext hxp)
 have HB3 := hide (HB.out.ext hxp)
 have HO3 := hide (HO.out.ext hxp)
 have HBB3 := hide (Nat.le_trans HBB.out hxp.size)
 have hb5w : w.heap.size ≤ b5 := by have := HX.out.size; omega
 clear hxp hbp hb5 HP2 HB HO HBB HX
 go_wp2_with fail
 refine (ints30_any L0 30 _ W3 (HS.out.ext HX3.out) (by decide)).mono ?_
 rintro e W4 ⟨v4, rfl, h4, E4⟩
 have H4 := hide h4
 have HE4 := hide E4
 clear h4 E4 HS
 go_wp2_with fail
 refine (acts_any (L0.take 30) v4 W4 H4.out (fun x hx => HL.out x (List.mem_of_mem_take hx))).mono ?_
 rintro e W5 ⟨va, A, rfl, hao, -, hAl, hfit, E5⟩
 obtain ⟨aa, ca, rfl⟩ := owns_shape hao
 have hA30 : A.length ≤ 30 := by rw [List.length_take] at hAl; omega
 have HAO := hide hao
 have HFIT := hide hfit
 have hE45 := HE4.out.trans E5
 have HX5 := hide (HX3.out.trans hE45)
 have HP5 := hide (HP3.out.ext hE45)
 have HB55 := hide (HB5.out.ext hE45)
 have HB4 := hide (HB3.out.ext hE45)
 have HO5 := hide (HO3.out.ext hE45)
 have HBB5 := hide (Nat.le_trans HBB3.out hE45.size)
 clear hao hfit hE45 E5 HE4 H4 HL HP3 HB3 HO3 HB5 HBB3 HX3 hAl
 go_wp2_with fail
 go_loopw [7] (fun v7 wr => ∃ i : Nat, i ≤ A.length ∧ v7 = .int .i64 i ∧ ∃ (pl : PlD) (L : List VerD) (lv : Value), pl.k = 3 ∧ Pl w.heap.size i wr p bm pl ∧ BoxP wr b5 3 lv ∧ VersAt wr lv L ∧ FarL wr lv L ∧ Both pl L i ∧ KQ w.heap.size b5 W5 wr) (fun i _ => A.length - (intOf i).toNat)
 case atStart => exact ⟨0, Nat.zero_le _, rfl, pl0 3, [], .slice none 0 0, rfl, HP5.out, HB55.out, ⟨⟨by simp, none, 0, rfl, by simp, fun i x hi => by simp at hi⟩, fun v hv => (by cases hv)⟩, ⟨Far.nil _, fun v hv => (by cases hv)⟩, Both.new 3, KQ.refl _ _ _⟩
 case round =>
  obtain ⟨i, hiA, rfl, pl, L, lv, hk, hp, hbx, hva, hfa, hbo, hkq⟩ := hrel
  generalize wr = w1 at *
  obtain ⟨_, av, cv, rfl⟩ := hva.1.shape
  have HK := hide hk
  have HP := hide hp
  have HB5 := hide hbx
  have HVA := hide hva
  have HFA := hide hfa
  have HBO := hide hbo
  have HK1 := hide hkq
  clear hk hp hbx hva hfa hbo hkq
  by_cases hlt : i < A.length
  ·have hltz : (i : Int) < A.length := by omega
   have HWI := hide (show IntKind.i64.wrap ((i : Int) + 1) = ((i + 1 : Nat) : Int) by rw [IntKind.wrap_i64]; omega)
   obtain ⟨ab, off, rfl, hbb, c0, c1, c2, c3⟩ := acts_at (Sl.of_own' (enc := encA) encA_len (HK1.out.own HB55.out.ty HAO.out (by decide) (by decide) (by decide))) i hlt
   have hft := HFIT.out _ (List.getElem_mem hlt)
   generalize A[i] = act at c0 c1 c2 c3 hft
   obtain ⟨ac, pr, ve, bn⟩ := act
   have c0 : w1.cell? ⟨ab, off + i * 4, none⟩ = some (.int .i64 ac) := c0
   have c1 : w1.cell? ⟨ab, off + i * 4 + 1, none⟩ = some (.int .i64 pr) := c1
   have c2 : w1.cell? ⟨ab, off + i * 4 + 2, none⟩ = some (.int .i64 ve) := c2
   have c3 : w1.cell? ⟨ab, off + i * 4 + 3, none⟩ = some (.bool bn) := c3
   have HAL := hide (show ab < w1.heap.size ∧ w1.cell? ⟨ab, off + i * 4, none⟩ = some (.int .i64 ac) ∧ w1.cell? ⟨ab, off + i * 4 + 1, none⟩ = some (.int .i64 pr) ∧ w1.cell? ⟨ab, off + i * 4 + 2, none⟩ = some (.int .i64 ve) ∧ w1.cell? ⟨ab, off + i * 4 + 3, none⟩ = some (.bool bn) from ⟨hbb, c0, c1, c2, c3⟩)
   have HB4w := hide (HK1.out.boxC HB55.out.ty HB4.out)
   have HX1 := hide (HK1.out.ext HX5.out (Nat.le_refl _) hb5w)
   have hdo : ∀ X, Ext w1 X → Calls Tryz.prog 18 #[.pointer (some ⟨p, 0, none⟩), .agg #[.int .i64 3, .slice av L.length cv], .agg #[.int .i64 ac, .int .i64 pr, .int .i64 ve, .bool bn], .agg #[c.sv, c.ev, c.rv, c.tv, .int .i64 c.w0, .int .i64 c.w1, .int .i64 c.w2, .int .i64 c.w3, .int .i64 c.w4, .int .i64 c.w5, .int .i64 c.w6, .int .i64 c.panic, .int .i64 c.low, .int .i64 c.high, .int .i64 c.wait, .int .i64 c.hop, .int .i64 c.life, .int .i64 c.purse, .int .i64 c.horizon, .int .i64 c.sample]] X (DoneP w.heap.size i X p bm 3 i) := fun X hX =>
    does_any X (HP.out.ext hX) HK.out (HVA.out.ext hX) (HFA.out.ext hX) HBO.out (by omega) (by omega) ⟨ac, pr, ve, bn⟩ hft W0.heap.size c ((HK1.out.conf HB55.out.ty HO5.out).ext hX) (Nat.le_trans HBB5.out (Nat.le_trans HK1.out.size hX.size)) G.out.1 (Nat.le_trans G.out.2.2 (by decide)) G.out.2.1 (HM.out.ext (HX1.out.trans hX)) (HX1.out.trans hX).size
   have HDO := hide hdo
   have HI0 := hide (show (0 : Int) ≤ i ∧ (i : Int) < A.length from ⟨by omega, hltz⟩)
   have HB4 := hide HB4w.out
   clear hdo c0 c1 c2 c3 hft hbb
   go_upto_region 10 with (fail)
   refine wp_region_rvw 99 [7, 12] [8, 9, 31, 32, 33, 34, 35, 36, 37, 38, 39, 40, 41] (PhEn w.heap.size i w1 p bm) (fun (vsI : List Value) (t : Nat) (wI : World) (v : Value) => match t with | 8 => ∃ g, v = .pointer (some ⟨g, 0, none⟩) ∧ w1.heap.size ≤ g ∧ (vsI.length ≤ 1 → BoxP wI g 0 (.slice none 0 0)) ∧ ∀ u, vsI[1]? = some u → u = .pointer (some ⟨g, 0, none⟩) | 9 => v = (.bool true) | 31 => ∃ r, vsI.head? = some r ∧ v = r | 32 => v = (.pointer (some ⟨p, 0, none⟩)) | 33 => v = (.agg #[.int .i64 3, (.slice av L.length cv)]) | 34 => v = (.slice (some ⟨ab, off, none⟩) A.length ca) | 35 => v = (.int .i64 (i : Int)) | 36 => v = (.pointer (some ⟨ab, off + i * 4, none⟩)) | 37 => v = (.agg #[.int .i64 ac, .int .i64 pr, .int .i64 ve, .bool bn]) | 38 => v = (.agg #[c.sv, c.ev, c.rv, c.tv, .int .i64 c.w0, .int .i64 c.w1, .int .i64 c.w2, .int .i64 c.w3, .int .i64 c.w4, .int .i64 c.w5, .int .i64 c.w6, .int .i64 c.panic, .int .i64 c.low, .int .i64 c.high, .int .i64 c.wait, .int .i64 c.hop, .int .i64 c.life, .int .i64 c.purse, .int .i64 c.horizon, .int .i64 c.sample]) | 40 => ∃ l9, vsI.head? = some (.tuple #[.agg #[.int .i64 3, l9], .bool true]) ∧ v = .agg #[.int .i64 3, l9] | 41 => v = (.bool true) | _ => True) (by kernel_rfl) rfl (by kernel_rfl) (by kernel_rfl) (by kernel_rfl) (by kernel_rfl) ?_ ?_ ?_ ?_ ?_ ?_
   ·intro vsI t w' w'' v hR hv
    split at hv <;> first | exact hv | (obtain ⟨g, h1, h2, h3, h4⟩ := hv; exact ⟨g, h1, h2, fun h => (h3 h).ext hR, h4⟩)
   ·intro vs w' w'' h e
    exact PhEn.ext h e
   ·exact (Below.refl _ _).drew
   ·intro i o ho hmi vs X w' hpk hph hX hI hF K hK
    have hin : i < 14 := (Array.getElem?_eq_some_iff.1 ho).1
    have hi : i = 0 ∨ i = 1 ∨ i = 2 ∨ i = 3 ∨ i = 4 ∨ i = 5 ∨ i = 6 ∨ i = 7 ∨ i = 8 ∨ i = 9 ∨ i = 10 ∨ i = 11 ∨ i = 12 ∨ i = 13 := by omega
    rcases hi with rfl | rfl | rfl | rfl | rfl | rfl | rfl | rfl | rfl | rfl | rfl | rfl | rfl | rfl
    ·obtain rfl := Option.some.inj ho
     have e3 : X 3 = (.pointer (some ⟨p, 0, none⟩)) := hF 3 (by omega) (by kernel_rfl)
     unfold wpOp
     simp only [ho]
     rw [if_pos (by rfl)]
     left
     rw [frame99]
     go_simp
     refine metK (hK.out ((.pointer (some ⟨p, 0, none⟩))) _ (Below.refl _ _) (fun d hd => by cases hd; exact rfl)) ?_
     simp [frame99, Act.put, *]
    ·obtain rfl := Option.some.inj ho
     have e5 : X 5 = (.pointer (some ⟨b5, 0, none⟩)) := hF 5 (by omega) (by kernel_rfl)
     rcases vs with _ | ⟨v0, _⟩
     rotate_left
     ·exact absurd ((hpk 0 (by decide)).2 (by kernel_rfl)) (by simp)
     have hxe : Ext w1 w' := hph
     have d0 := (HB5.out.ext hxe).c0
     have d1 := (HB5.out.ext hxe).c1
     unfold wpOp
     simp only [ho]
     rw [if_pos (by rfl)]
     left
     rw [frame99]
     go_simp
     refine metK (hK.out ((.agg #[.int .i64 3, (.slice av L.length cv)])) _ (Below.refl _ _) (fun d hd => by cases hd; exact rfl)) ?_
     simp [frame99, Act.put, *]
    ·obtain rfl := Option.some.inj ho
     have e6 : X 6 = (.slice (some ⟨ab, off, none⟩) A.length ca) := hF 6 (by omega) (by kernel_rfl)
     unfold wpOp
     simp only [ho]
     rw [if_pos (by rfl)]
     left
     rw [frame99]
     go_simp
     refine metK (hK.out ((.slice (some ⟨ab, off, none⟩) A.length ca)) _ (Below.refl _ _) (fun d hd => by cases hd; exact rfl)) ?_
     simp [frame99, Act.put, *]
    ·obtain rfl := Option.some.inj ho
     have e7 : X 7 = (.int .i64 (i : Int)) := hF 7 (by omega) (by kernel_rfl)
     unfold wpOp
     simp only [ho]
     rw [if_pos (by rfl)]
     left
     rw [frame99]
     go_simp
     refine metK (hK.out ((.int .i64 (i : Int))) _ (Below.refl _ _) (fun d hd => by cases hd; exact rfl)) ?_
     simp [frame99, Act.put, *]
    ·obtain rfl := Option.some.inj ho
     have e34 : X 34 = _ := hI 34 (by kernel_rfl) (by kernel_rfl)
     have e35 : X 35 = _ := hI 35 (by kernel_rfl) (by kernel_rfl)
     have q1 := HI0.out.1
     have q2 := HI0.out.2
     unfold wpOp
     simp only [ho]
     rw [if_pos (by rfl)]
     left
     rw [frame99]
     go_simp
     refine metK (hK.out ((.pointer (some ⟨ab, off + i * 4, none⟩))) _ (Below.refl _ _) (fun d hd => by cases hd; exact rfl)) ?_
     simp [frame99, Act.put, *]
    ·obtain rfl := Option.some.inj ho
     have e36 : X 36 = _ := hI 36 (by kernel_rfl) (by kernel_rfl)
     rcases vs with _ | ⟨v0, _⟩
     rotate_left
     ·exact absurd ((hpk 0 (by decide)).2 (by kernel_rfl)) (by simp)
     have hxe : Ext w1 w' := hph
     have c0 := (hxe.cell (p := ⟨ab, off + i * 4, none⟩) HAL.out.1).trans HAL.out.2.1
     have c1 := (hxe.cell (p := ⟨ab, off + i * 4 + 1, none⟩) HAL.out.1).trans HAL.out.2.2.1
     have c2 := (hxe.cell (p := ⟨ab, off + i * 4 + 2, none⟩) HAL.out.1).trans HAL.out.2.2.2.1
     have c3 := (hxe.cell (p := ⟨ab, off + i * 4 + 3, none⟩) HAL.out.1).trans HAL.out.2.2.2.2
     unfold wpOp
     simp only [ho]
     rw [if_pos (by rfl)]
     left
     rw [frame99]
     go_simp
     refine metK (hK.out ((.agg #[.int .i64 ac, .int .i64 pr, .int .i64 ve, .bool bn])) _ (Below.refl _ _) (fun d hd => by cases hd; exact rfl)) ?_
     simp [frame99, Act.put, *]
    ·obtain rfl := Option.some.inj ho
     have e4 : X 4 = (.pointer (some ⟨b4, 0, none⟩)) := hF 4 (by omega) (by kernel_rfl)
     rcases vs with _ | ⟨v0, _⟩
     rotate_left
     ·exact absurd ((hpk 0 (by decide)).2 (by kernel_rfl)) (by simp)
     have hxe : Ext w1 w' := hph
     unfold wpOp
     simp only [ho]
     rw [if_pos (by rfl)]
     left
     rw [frame99]
     refine wp_load_mid 30 (.tmp 4) rfl b4 0 e4 (encC c) cd ((HB4.out.ext hxe).range) hcd1 hcd2 Tryz.confSize (metK (hK.out (.agg #[c.sv, c.ev, c.rv, c.tv, .int .i64 c.w0, .int .i64 c.w1, .int .i64 c.w2, .int .i64 c.w3, .int .i64 c.w4, .int .i64 c.w5, .int .i64 c.w6, .int .i64 c.panic, .int .i64 c.low, .int .i64 c.high, .int .i64 c.wait, .int .i64 c.hop, .int .i64 c.life, .int .i64 c.purse, .int .i64 c.horizon, .int .i64 c.sample]) _ (Below.refl _ _) (fun d hd => by cases hd; exact rfl)) ?_)
     simp [frame99, Act.put, *]
     rfl
    ·exact absurd hmi (by decide)
    ·obtain rfl := Option.some.inj ho
     have e39 : X 39 = vs.getD 0 undef := hX 0 39 ((hpk 0 (by decide)).1 (by kernel_rfl)) (by kernel_rfl)
     rcases vs with _ | ⟨v0, vt⟩
     ·exact absurd ((hpk 0 (by decide)).1 (by kernel_rfl)) (by simp)
     have e39 : X 39 = v0 := e39
     unfold wpOp
     simp only [ho]
     rw [if_pos (by rfl)]
     left
     rw [frame99]
     go_simp
     refine metK (hK.out v0 _ (Below.refl _ _) (fun d hd => by cases hd; exact ⟨v0, rfl, rfl⟩)) ?_
     simp [frame99, Act.put, *]
    ·obtain rfl := Option.some.inj ho
     have y31 := hI 31 (by kernel_rfl) (by kernel_rfl)
     obtain ⟨r, hr, e31⟩ := y31
     obtain ⟨l9, hl9⟩ := PhEn.head hph hr
     subst hl9
     unfold wpOp
     simp only [ho]
     rw [if_pos (by rfl)]
     left
     rw [frame99]
     go_simp
     refine metK (hK.out (.agg #[.int .i64 3, l9]) _ (Below.refl _ _) (fun d hd => by cases hd; exact ⟨l9, hr, rfl⟩)) ?_
     simp [frame99, Act.put, *]
    ·obtain rfl := Option.some.inj ho
     have y31 := hI 31 (by kernel_rfl) (by kernel_rfl)
     obtain ⟨r, hr, e31⟩ := y31
     obtain ⟨l9, hl9⟩ := PhEn.head hph hr
     subst hl9
     unfold wpOp
     simp only [ho]
     rw [if_pos (by rfl)]
     left
     rw [frame99]
     go_simp
     refine metK (hK.out (.bool true) _ (Below.refl _ _) (fun d hd => by cases hd; exact rfl)) ?_
     simp [frame99, Act.put, *]
    ·obtain rfl := Option.some.inj ho
     unfold wpOp
     simp only [ho]
     rw [if_pos (by rfl)]
     left
     rw [frame99]
     go_simp
     refine metK (hK.out (.pointer (some ⟨w'.heap.size, 0, none⟩)) _ ((Below.refl _ _).alloc (Nat.le_refl _) _) (fun d hd => by cases hd; exact ⟨w'.heap.size, rfl, PhEn.size hph, fun _ => heap_alloc_new w' _, fun u hu => absurd hu (PhEn.not1 ((hpk 1 (by decide)).2 (by kernel_rfl)) u)⟩)) ?_
     simp [frame99, Act.put, *]
    ·exact absurd hmi (by decide)
    ·obtain rfl := Option.some.inj ho
     have e41 : X 41 = _ := hI 41 (by kernel_rfl) (by kernel_rfl)
     unfold wpOp
     simp only [ho]
     rw [if_pos (by rfl)]
     left
     rw [frame99]
     go_simp
     refine metK (hK.out ((.bool true)) _ (Below.refl _ _) (fun d hd => by cases hd; exact rfl)) ?_
     simp [frame99, Act.put, *]
   ·intro i o ho hmi vs X w' hqi hql hph hX hI hF K hK
    rcases vs with _ | ⟨v0, _ | ⟨v1, _⟩⟩
    ·obtain rfl : 7 = i := hqi
     obtain rfl := Option.some.inj ho
     have e32 : X 32 = _ := hI 32 (by kernel_rfl) (by kernel_rfl)
     have e33 : X 33 = _ := hI 33 (by kernel_rfl) (by kernel_rfl)
     have e37 : X 37 = _ := hI 37 (by kernel_rfl) (by kernel_rfl)
     have e38 : X 38 = _ := hI 38 (by kernel_rfl) (by kernel_rfl)
     have hxe : Ext w1 w' := hph
     unfold wpOp
     simp only [ho]
     rw [if_pos (by rfl)]
     left
     rw [frame99]
     go_simp
     refine (HDO.out w' hxe).mono ?_
     rintro e w9 ⟨l9, rfl, pl', L', hk9, hp9, hv9, hf9, hb9, hq9⟩
     refine metK (hK.out (.tuple #[pVal 3 l9, .bool true]) w9 ⟨l9, pl', L', rfl, hk9, hp9, hv9, hf9, hb9, (KP.of_ext hxe).trans hq9⟩ (fun t h => by split at h <;> first | exact h | (obtain ⟨r, hr, -⟩ := h; cases hr; done) | (obtain ⟨g, h1, h2, h3, h4⟩ := h; exact ⟨g, h1, h2, fun _ => (h3 (by simp)).kpx hq9, fun u hu => by cases hu⟩))) ?_
     simp [frame99, Act.put, *]
    ·obtain rfl : 12 = i := hqi
     obtain rfl := Option.some.inj ho
     have y8 := hI 8 (by kernel_rfl) (by kernel_rfl)
     have y40 := hI 40 (by kernel_rfl) (by kernel_rfl)
     obtain ⟨l9, hr9, e40⟩ := y40
     obtain ⟨g, e8, hg9, hg8, -⟩ := y8
     have hbg := hg8 (by simp)
     cases hr9
     obtain ⟨az, nz, cz, rfl⟩ := PhEn.shape hph
     have d0 := hbg.c0
     have d1 := hbg.c1
     have z0 := hbg.fz 0
     have z1 := hbg.fz 1
     have hst := PhEn.store hph hbg hg9
     unfold wpOp
     simp only [ho]
     rw [if_pos (by rfl)]
     left
     rw [frame99]
     go_simp
     refine metK (hK.out (.pointer (some ⟨g, 0, none⟩)) _ hst (fun t h => by split at h <;> first | exact h | (obtain ⟨g', h1, h2, h3, h4⟩ := h; refine ⟨g', h1, h2, fun hh => absurd hh (by simp), fun u hu => ?_⟩; cases hu; rw [← h1, e8]))) ?_
     simp [frame99, Act.put, *]
    ·simp at hql <;> omega
   ·intro vs X w' hlen hph hX hI
    have y8 := hI 8 (by omega) (by kernel_rfl) (by kernel_rfl)
    have e9 : X 9 = _ := hI 9 (by omega) (by kernel_rfl) (by kernel_rfl)
    have y31 := hI 31 (by omega) (by kernel_rfl) (by kernel_rfl)
    have e32 : X 32 = _ := hI 32 (by omega) (by kernel_rfl) (by kernel_rfl)
    have e33 : X 33 = _ := hI 33 (by omega) (by kernel_rfl) (by kernel_rfl)
    have e34 : X 34 = _ := hI 34 (by omega) (by kernel_rfl) (by kernel_rfl)
    have e35 : X 35 = _ := hI 35 (by omega) (by kernel_rfl) (by kernel_rfl)
    have e36 : X 36 = _ := hI 36 (by omega) (by kernel_rfl) (by kernel_rfl)
    have e37 : X 37 = _ := hI 37 (by omega) (by kernel_rfl) (by kernel_rfl)
    have e38 : X 38 = _ := hI 38 (by omega) (by kernel_rfl) (by kernel_rfl)
    have y40 := hI 40 (by omega) (by kernel_rfl) (by kernel_rfl)
    have e41 : X 41 = _ := hI 41 (by omega) (by kernel_rfl) (by kernel_rfl)
    rcases vs with _ | ⟨v0, _ | ⟨v1, _ | ⟨vz, vs⟩⟩⟩
    ·simp at hlen
    ·simp at hlen
    rotate_left
    ·simp at hlen
    have e39 : X 39 = v0 := hX 0 39 (by simp) (by kernel_rfl)
    clear hX hI hlen
    simp only [overF, List.foldl_cons, List.foldl_nil, List.setIfInBounds_toArray, List.set_cons_succ, List.set_cons_zero, e9, e32, e33, e34, e35, e36, e37, e38, e39, e41]
    obtain ⟨g8, e8, -, -, h48⟩ := y8
    obtain ⟨l9, pl9, L9, g9, rfl, rfl, hk9, hp9, hv9, hf9, hb9, hq9, hbx9, hgs9⟩ := hph
    have hgg := h48 _ rfl
    have e8 : X 8 = .pointer (some ⟨g9, 0, none⟩) := e8.trans hgg.symm
    clear h48 hgg y31 y40
    generalize X 31 = x31
    generalize X 40 = x40
    rw [e8]
    clear e8 e39 e9 e32 e33 e34 e35 e36 e37 e38 e41
    obtain ⟨_, a9, c9, rfl⟩ := hv9.1.shape
    have HP9 := hide hp9
    have HV9 := hide hv9
    have HF9 := hide hf9
    have HQ9 := hide ((HK1.out).kp hq9)
    have HBB9 := hide hb9
    have hb59 := HB5.out.kpx hq9
    have HB59 := hide hb59
    have f0 := hbx9.c0
    have f1 := hbx9.c1
    have d0 := hb59.c0
    have d1 := hb59.c1
    have z0 := hb59.fz 0
    have z1 := hb59.fz 1
    have hwi := HWI.out
    clear hp9 hv9 hf9 hq9 hb9 hb59 hbx9 HDO HAL HWI
    go_wp2
    go_roundw
    case rel => exact ⟨i + 1, by omega, by go_num, pl9, L9, .slice a9 L9.length c9, hk9, Pl.setP HP9.out HB59.out, HB59.out.both, ((HV9.out).kq HF9.out (((KQ.refl w.heap.size b5 _).set 0 _).set 1 _) HB59.out.ty).1, ((HV9.out).kq HF9.out (((KQ.refl w.heap.size b5 _).set 0 _).set 1 _) HB59.out.ty).2, HBB9.out, (HQ9.out.set 0 _).set 1 _⟩
    case measure => (simp [intOf]) <;> omega
  ·obtain rfl : i = A.length := by omega
   have HX1 := hide (HK1.out.ext HX5.out (Nat.le_refl _) hb5w)
   have HB4w := hide (HK1.out.boxC HB55.out.ty HB4.out)
   have hpp := pl_publish HP.out W0.heap.size c (HK1.out.conf HB55.out.ty HO5.out) (Nat.le_trans HBB5.out HK1.out.size) G.out.1 (Nat.le_trans G.out.2.2 (by decide)) G.out.2.1 (HM.out.ext HX1.out) (by rw [HBO.out.sim.len]; have := HBO.out.len; omega) HX1.out.size
   rw [HBO.out.sim.len] at hpp
   have hl30 : L.length ≤ 30 := Nat.le_trans HBO.out.len hA30
   have hsett := fun b => Sett.new HBO.out HK.out (by omega) b
   obtain ⟨n, hn⟩ : ∃ n, L.length = n := ⟨_, rfl⟩
   rw [hn] at hpp hsett hl30
   obtain ⟨N, hN⟩ : ∃ N, A.length = N := ⟨_, rfl⟩
   rw [hN] at hpp hA30
   have HPP := hide hpp
   have HST := hide hsett
   clear hpp hsett hlt HVA HFA HBO HK1 HB5 HP HB55 HO5 hn
   go_upto_region 14 with (fail)
   refine wp_region_lit ?_
   refine wpList_plain rfl fun K hK => ?_
   go_simp
   refine hK _ _ ?_
   refine wpList_load_mid rfl 30 (.tmp 4) rfl b4 0 rfl (encC c) cd (HB4w.out.range) hcd1 hcd2 Tryz.confSize ?_
   simp only [Act.put]
   go_wp2_with fail
   refine HPP.out.mono ?_
   rintro e W6 ⟨rfl, ⟨bs, hp⟩, hk⟩
   have HP6 := hide hp
   have HX6 := hide (hk.ext HX1.out (Nat.le_refl _))
   have HS6 := hide (HST.out bs)
   obtain ⟨n1, hn1⟩ : ∃ n1 : Int, (n : Int) + 1 = n1 := ⟨_, rfl⟩
   rw [hn1]
   have HN1 := hide hn1
   clear hp hk HPP HST hn1
   go_wp2_with fail
   go_loopw [12] (fun v12 wr => ∃ j : Nat, j ≤ 3 ∧ v12 = .int .i64 j ∧ ∃ pl, Pl w.heap.size (N + j) wr p bm pl ∧ Sett n bs j pl ∧ Ext w wr) (fun j _ => 3 - (intOf j).toNat)
   case atStart => exact ⟨0, Nat.zero_le _, rfl, _, HP6.out, HS6.out, HX6.out⟩
   case round =>
    obtain ⟨j, hj3, rfl, pl, hp, hse, hx⟩ := hrel
    generalize wr = w2 at *
    have HP := hide hp
    have HSE := hide hse
    have HX2 := hide hx
    clear hp hse hx HP6 HS6 HX6
    by_cases hlt : j < 3
    ·have hltz : (j : Int) < 3 := by omega
     have HWI := hide (show IntKind.i64.wrap ((j : Int) + 1) = ((j + 1 : Nat) : Int) by rw [IntKind.wrap_i64]; omega)
     have hI : I64 (j : Int) := by constructor <;> omega
     have hnx := pl_next HP.out (j : Int) hI
     rw [HSE.out.next hlt] at hnx
     have hnx : Calls Tryz.prog 19 #[.pointer (some ⟨p, 0, none⟩), .int .i64 j] w2 fun e w' => e = .returned (.tuple #[.pointer (some ⟨bs, 0, none⟩), .bool true]) ∧ Ext w2 w' := hnx
     have HNX := hide hnx
     clear hnx
     go_wp2_with fail
     refine HNX.out.mono ?_
     rintro e w3 ⟨rfl, E3⟩
     have HP3 := hide (HP.out.ext E3)
     have hver := HP3.out.ver n (by rw [HSE.out.len]; omega) bs (by rw [← madeAt_eq _ (by rw [HSE.out.len]; omega)]; exact HSE.out.blk)
     rw [HN1.out] at hver
     have hI1 : I64 n1 := by have := HN1.out; constructor <;> omega
     have hak := pl_ack HP3.out (j : Int) n1 ⟨hI, hI1⟩ (by omega) (HSE.out.big (by omega))
     have hz : sayE pl (j : Int) n1 = 0 := by rw [← HN1.out]; exact HSE.out.says hlt
     rw [hz, if_pos rfl, ← HN1.out] at hak
     have HSE1 := hide (HSE.out.ack hlt)
     obtain ⟨pl4, hpl4⟩ : ∃ q, ackP pl (j : Int) ((n : Int) + 1) = q := ⟨_, rfl⟩
     rw [hpl4] at hak HSE1
     rw [HN1.out] at hak
     have HAK := hide hak
     have HX3 := hide (HX2.out.trans E3)
     clear hak hz hpl4 E3 HNX HP HSE
     go_wp2_with fail
     refine HAK.out.mono ?_
     rintro e w4 ⟨rfl, hp4, hk4⟩
     have HP4 := hide hp4
     have HX4 := hide (hk4.ext HX3.out (Nat.le_refl _))
     have hnx := pl_next HP4.out (j : Int) hI
     rw [HSE1.out.more] at hnx
     have hnx : Calls Tryz.prog 19 #[.pointer (some ⟨p, 0, none⟩), .int .i64 j] w4 fun e w' => e = .returned (.tuple #[.pointer none, .bool false]) ∧ Ext w4 w' := hnx
     have HNX := hide hnx
     clear hnx hp4 hk4 HAK hver
     go_wp2_with fail
     refine HNX.out.mono ?_
     rintro e w5 ⟨rfl, E5⟩
     have HP5 := hide (HP4.out.ext E5)
     have HX5 := hide (HX4.out.trans E5)
     have hwi := HWI.out
     clear E5 HNX HWI
     go_wp2
     go_roundw
     case rel => exact ⟨j + 1, by omega, by go_num, pl4, HP5.out, HSE1.out, HX5.out⟩
     case measure => (simp [intOf]) <;> omega
    ·obtain rfl : j = 3 := by omega
     have hlv := pl_live HP.out
     rw [HSE.out.live] at hlv
     have hlv : Calls Tryz.prog 21 #[.pointer (some ⟨p, 0, none⟩)] w2 fun e w' => e = .returned (.int .i64 n1) ∧ Ext w2 w' := by rw [← HN1.out]; exact hlv
     have HLV := hide hlv
     clear hlv hlt
     go_wp2_with fail
     refine HLV.out.mono ?_
     rintro e w3 ⟨rfl, E3⟩
     have HX3 := hide (HX2.out.trans E3)
     clear E3 HLV
     go_wp2_with fail
     refine (lives17_any w3 (HM.out.ext HX3.out)).mono ?_
     rintro e w9 ⟨rfl, E9⟩
     have HZ := hide (HX3.out.trans E9)
     clear E9 HX3
     go_wp2
     go_ret
     exact ⟨rfl, HZ.out⟩
end Go.Proofs.YtkhebanpplokdaaGreatDoor
