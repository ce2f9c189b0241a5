import Derived.Test.YtkhebanpplokdaaGreatDoorZps
import Derived.Test.YtkhebanpplokdaaGreatDoorZpt
import Derived.Test.YtkhebanpplokdaaGreatDoorZpw
import Derived.Test.YtkhebanpplokdaaGreatDoorZhr
namespace Go.Proofs.YtkhebanpplokdaaGreatDoor
open Go.ChangeShapes Go.WideShapes Go.ChangeAt Go.RowKit Go.Lib Go.Shelf Go.Maps
theorem BoxP.kpx {B b : Nat} {w w' : World} {k : Int} {lv : Value} (h : BoxP w b k lv) (q : KP B w w') : BoxP w' b k lv := (q.block b h.lt (fun hx => by rcases hx.2 _ _ _ h with e | e <;> exact absurd e (by decide))).trans h
theorem BoxA.kpx {B b : Nat} {w w' : World} {a : ActD} (h : BoxA w b a) (q : KP B w w') : BoxA w' b a := (q.block b h.lt (fun hx => by rcases hx.2 _ _ _ h with e | e <;> exact absurd e (by decide))).trans h
theorem BoxA.farx {w : World} {b q j : Nat} {a : ActD} {u : Value} (h : BoxA w b a) (hq : b ≠ q) : BoxA (w.setCell ⟨q, j, none⟩ u) b a := (Below.heap_setCell _ _ _ _ hq).trans h
theorem BoxA.at1 {w : World} {b : Nat} {a : ActD} {p : Int} (h : BoxA w b a) (e : a.pr = p) : w.cell? ⟨b, 1, none⟩ = some (.int .i64 p) := by subst e; exact h.cell 1 _ rfl
theorem BoxA.at2 {w : World} {b : Nat} {a : ActD} {p : Int} (h : BoxA w b a) (e : a.ver = p) : w.cell? ⟨b, 2, none⟩ = some (.int .i64 p) := by subst e; exact h.cell 2 _ rfl
theorem Pl.setP {B N p bm q : Nat} {w : World} {pl : PlD} {k k' : Int} {lv lv' : Value} (h : Pl B N w p bm pl) (hb : BoxP w q k lv) : Pl B N ((w.setCell ⟨q, 0, none⟩ (.int .i64 k')).setCell ⟨q, 1, none⟩ lv') p bm pl :=
 h.keepT ((Keeps.of_set (X := fun g => g = q) w q 0 _ rfl).trans (Keeps.of_set (X := fun g => g = q) _ q 1 _ rfl)) (OfT.one hb) (by decide) (by decide) (by decide)
set_option maxRecDepth 100000 in
theorem frame134 (x : Nat → Value) : frameOf 134 x = #[x 0, x 1, x 2, x 3, x 4, x 5, x 6, x 7, x 8, x 9, x 10, x 11, x 12, x 13, x 14, x 15, x 16, x 17, x 18, x 19, x 20, x 21, x 22, x 23, x 24, x 25, x 26, x 27, x 28, x 29, x 30, x 31, x 32, x 33, x 34, x 35, x 36, x 37, x 38, x 39, x 40, x 41, x 42, x 43, x 44, x 45, x 46, x 47, x 48, x 49, x 50, x 51, x 52, x 53, x 54, x 55, x 56, x 57, x 58, x 59, x 60, x 61, x 62, x 63, x 64, x 65, x 66, x 67, x 68, x 69, x 70, x 71, x 72, x 73, x 74, x 75, x 76, x 77, x 78, x 79, x 80, x 81, x 82, x 83, x 84, x 85, x 86, x 87, x 88, x 89, x 90, x 91, x 92, x 93, x 94, x 95, x 96, x 97, x 98, x 99, x 100, x 101, x 102, x 103, x 104, x 105, x 106, x 107, x 108, x 109, x 110, x 111, x 112, x 113, x 114, x 115, x 116, x 117, x 118, x 119, x 120, x 121, x 122, x 123, x 124, x 125, x 126, x 127, x 128, x 129, x 130, x 131, x 132, x 133] := rfl
theorem KQ.out {B b : Nat} {w W w' : World} (h : KQ B b W w') (e : Ext w W) (hb : w.heap.size ≤ b) : KP B w w' := by
 refine ⟨h.os.trans e.os, h.tape.trans e.tape, h.output.trans e.output, Nat.le_trans e.size h.size, fun i hi hx => ?_⟩
 have h1 := e.block i hi
 exact (h.block i (Nat.lt_of_lt_of_le hi e.size) (fun hq => by
  rcases hq with hq | hq
  ·exact hx ⟨hq.1, fun cs t f e2 => hq.2 cs t f (h1.trans e2)⟩
  ·omega)).trans h1
def KQT (B b : Nat) (w w' : World) : Prop := KQ B b w w' ∧ (TyP w b → TyP w' b)
theorem KQT.refl (B b : Nat) (w : World) : KQT B b w w := ⟨KQ.refl _ _ _, fun h => h⟩
theorem TyP.ext {b : Nat} {w w' : World} (h : TyP w b) (e : Ext w w') : TyP w' b := by
 obtain ⟨cs, f, h⟩ := h
 exact ⟨cs, f, (e.block b (Array.getElem?_eq_some_iff.1 h).1).trans h⟩
theorem TyP.kp {B b : Nat} {w w' : World} (h : TyP w b) (k : KP B w w') : TyP w' b := by
 obtain ⟨cs, f, h⟩ := h
 exact ⟨cs, f, (k.block b (Array.getElem?_eq_some_iff.1 h).1 (fun hx => by rcases hx.2 _ _ _ h with e | e <;> exact absurd e (by decide))).trans h⟩
theorem KQT.of_ext {B b : Nat} {w w' : World} (e : Ext w w') : KQT B b w w' := ⟨KQ.of_ext e, fun h => h.ext e⟩
def DoneP (B N : Nat) (w : World) (p bm : Nat) (k : Int) (M : Nat) (e : Ending) (w' : World) : Prop :=
 ∃ lv', e = .returned (.tuple #[pVal k lv', .bool true]) ∧ ∃ pl' L', pl'.k = k ∧ Pl B (N + 1) w' p bm pl' ∧ VersAt w' lv' L' ∧ FarL w' lv' L' ∧ Both pl' L' (M + 1) ∧ KP B w w'
set_option maxRecDepth 100000 in
set_option maxHeartbeats 16000000 in
theorem does_any {B N p bm : Nat} {pl : PlD} {k : Int} {lv : Value} {L : List VerD} {M : Nat} (w : World) (h : Pl B N w p bm pl) (hk : pl.k = k) (hs : VersAt w lv L) (hfar : FarL w lv L) (hb : Both pl L M) (hM : M < 49) (hN : N < 1000) (a0 : ActD) (hf : ActFit a0) (C : Nat) (c : ConfD) (ho : ConfOwn C w c) (hC : C ≤ w.heap.size) (hcf : ConfFit c) (hcl : c.E.length ≤ 19) (hcr : chkC c = 0) (hm : MaxV w) (hB : B ≤ w.heap.size) :
  Calls Tryz.prog 18 #[.pointer (some ⟨p, 0, none⟩), pVal k lv, .agg #[.int .i64 a0.act, .int .i64 a0.pr, .int .i64 a0.ver, .bool a0.bent], c.val] w (DoneP B N w p bm k M) := by
 obtain ⟨dp, hp1, hp2⟩ := pDesc
 obtain ⟨cd, hcd1, hcd2⟩ := Tryz.confDesc
 obtain ⟨hl63, a, cap, rfl⟩ := hs.1.shape
 obtain ⟨ac, pr, ve, bn⟩ := a0
 obtain ⟨hf1, hf2, hf3, hf4, hf5, hf6⟩ := hf
 have hf1 : 0 ≤ ac := hf1
 have hf2 : ac ≤ 6 := hf2
 have hI : I64 pr ∧ I64 ve := by
  have hf3 : -1 ≤ pr := hf3
  have hf4 : pr ≤ 9 := hf4
  have hf5 : -2 ≤ ve := hf5
  have hf6 : ve ≤ 50 := hf6
  constructor <;> constructor <;> omega
 clear hf3 hf4 hf5 hf6
 have hx : Ext w ((((w.alloc (.cells #[.int .i64 k, .slice a L.length cap] 55)).alloc (.cells #[.int .i64 ac, .int .i64 pr, .int .i64 ve, .bool bn] 62)).alloc (.cells #[c.sv, c.ev, c.rv, c.tv, .int .i64 c.w0, .int .i64 c.w1, .int .i64 c.w2, .int .i64 c.w3, .int .i64 c.w4, .int .i64 c.w5, .int .i64 c.w6, .int .i64 c.panic, .int .i64 c.low, .int .i64 c.high, .int .i64 c.wait, .int .i64 c.hop, .int .i64 c.life, .int .i64 c.purse, .int .i64 c.horizon, .int .i64 c.sample] 30)).alloc (.cells #[.int .i64 0, .slice none 0 0] 55)) := ((((Below.refl _ _).alloc (Nat.le_refl _) _).alloc (Nat.le_of_lt (by simp)) _).alloc (by simp <;> omega) _).alloc (by simp <;> omega) _
 have hb5 : BoxP ((((w.alloc (.cells #[.int .i64 k, .slice a L.length cap] 55)).alloc (.cells #[.int .i64 ac, .int .i64 pr, .int .i64 ve, .bool bn] 62)).alloc (.cells #[c.sv, c.ev, c.rv, c.tv, .int .i64 c.w0, .int .i64 c.w1, .int .i64 c.w2, .int .i64 c.w3, .int .i64 c.w4, .int .i64 c.w5, .int .i64 c.w6, .int .i64 c.panic, .int .i64 c.low, .int .i64 c.high, .int .i64 c.wait, .int .i64 c.hop, .int .i64 c.life, .int .i64 c.purse, .int .i64 c.horizon, .int .i64 c.sample] 30)).alloc (.cells #[.int .i64 0, .slice none 0 0] 55)) w.heap.size k (.slice a L.length cap) := (Below.heap_alloc _ _ _ (by simp <;> omega)).trans ((Below.heap_alloc _ _ _ (by simp <;> omega)).trans ((Below.heap_alloc _ _ _ (by simp)).trans (heap_alloc_new w _)))
 have hb6 : BoxA ((((w.alloc (.cells #[.int .i64 k, .slice a L.length cap] 55)).alloc (.cells #[.int .i64 ac, .int .i64 pr, .int .i64 ve, .bool bn] 62)).alloc (.cells #[c.sv, c.ev, c.rv, c.tv, .int .i64 c.w0, .int .i64 c.w1, .int .i64 c.w2, .int .i64 c.w3, .int .i64 c.w4, .int .i64 c.w5, .int .i64 c.w6, .int .i64 c.panic, .int .i64 c.low, .int .i64 c.high, .int .i64 c.wait, .int .i64 c.hop, .int .i64 c.life, .int .i64 c.purse, .int .i64 c.horizon, .int .i64 c.sample] 30)).alloc (.cells #[.int .i64 0, .slice none 0 0] 55)) (w.heap.size + 1) ⟨ac, pr, ve, bn⟩ := (Below.heap_alloc _ _ _ (by simp <;> omega)).trans ((Below.heap_alloc _ _ _ (by simp)).trans (heap_alloc2_new w _ _))
 have hb7 : BoxC ((((w.alloc (.cells #[.int .i64 k, .slice a L.length cap] 55)).alloc (.cells #[.int .i64 ac, .int .i64 pr, .int .i64 ve, .bool bn] 62)).alloc (.cells #[c.sv, c.ev, c.rv, c.tv, .int .i64 c.w0, .int .i64 c.w1, .int .i64 c.w2, .int .i64 c.w3, .int .i64 c.w4, .int .i64 c.w5, .int .i64 c.w6, .int .i64 c.panic, .int .i64 c.low, .int .i64 c.high, .int .i64 c.wait, .int .i64 c.hop, .int .i64 c.life, .int .i64 c.purse, .int .i64 c.horizon, .int .i64 c.sample] 30)).alloc (.cells #[.int .i64 0, .slice none 0 0] 55)) (w.heap.size + 1 + 1) c := by
  have := heap_alloc_new ((w.alloc (.cells #[.int .i64 k, .slice a L.length cap] 55)).alloc (.cells #[.int .i64 ac, .int .i64 pr, .int .i64 ve, .bool bn] 62)) (.cells #[c.sv, c.ev, c.rv, c.tv, .int .i64 c.w0, .int .i64 c.w1, .int .i64 c.w2, .int .i64 c.w3, .int .i64 c.w4, .int .i64 c.w5, .int .i64 c.w6, .int .i64 c.panic, .int .i64 c.low, .int .i64 c.high, .int .i64 c.wait, .int .i64 c.hop, .int .i64 c.life, .int .i64 c.purse, .int .i64 c.horizon, .int .i64 c.sample] 30)
  have e : ((w.alloc (.cells #[.int .i64 k, .slice a L.length cap] 55)).alloc (.cells #[.int .i64 ac, .int .i64 pr, .int .i64 ve, .bool bn] 62)).heap.size = w.heap.size + 1 + 1 := by simp
  rw [e] at this
  exact (Below.heap_alloc _ _ _ (by simp)).trans this
 have hb8 : BoxP ((((w.alloc (.cells #[.int .i64 k, .slice a L.length cap] 55)).alloc (.cells #[.int .i64 ac, .int .i64 pr, .int .i64 ve, .bool bn] 62)).alloc (.cells #[c.sv, c.ev, c.rv, c.tv, .int .i64 c.w0, .int .i64 c.w1, .int .i64 c.w2, .int .i64 c.w3, .int .i64 c.w4, .int .i64 c.w5, .int .i64 c.w6, .int .i64 c.panic, .int .i64 c.low, .int .i64 c.high, .int .i64 c.wait, .int .i64 c.hop, .int .i64 c.life, .int .i64 c.purse, .int .i64 c.horizon, .int .i64 c.sample] 30)).alloc (.cells #[.int .i64 0, .slice none 0 0] 55)) (w.heap.size + 1 + 1 + 1) 0 (.slice none 0 0) := by
  have := heap_alloc_new (((w.alloc (.cells #[.int .i64 k, .slice a L.length cap] 55)).alloc (.cells #[.int .i64 ac, .int .i64 pr, .int .i64 ve, .bool bn] 62)).alloc (.cells #[c.sv, c.ev, c.rv, c.tv, .int .i64 c.w0, .int .i64 c.w1, .int .i64 c.w2, .int .i64 c.w3, .int .i64 c.w4, .int .i64 c.w5, .int .i64 c.w6, .int .i64 c.panic, .int .i64 c.low, .int .i64 c.high, .int .i64 c.wait, .int .i64 c.hop, .int .i64 c.life, .int .i64 c.purse, .int .i64 c.horizon, .int .i64 c.sample] 30)) (.cells #[.int .i64 0, .slice none 0 0] 55)
  simpa [BoxP] using this
 have H := hide h
 have HS := hide hs
 have HFR := hide hfar
 have HBO := hide hb
 have HOC := hide ho
 have HMX := hide hm
 clear h hs hfar hb ho hm
 subst hk
 show Calls Tryz.prog 18 #[.pointer (some ⟨p, 0, none⟩), .agg #[.int .i64 pl.k, .slice a L.length cap], .agg #[.int .i64 ac, .int .i64 pr, .int .i64 ve, .bool bn], .agg #[c.sv, c.ev, c.rv, c.tv, .int .i64 c.w0, .int .i64 c.w1, .int .i64 c.w2, .int .i64 c.w3, .int .i64 c.w4, .int .i64 c.w5, .int .i64 c.w6, .int .i64 c.panic, .int .i64 c.low, .int .i64 c.high, .int .i64 c.wait, .int .i64 c.hop, .int .i64 c.life, .int .i64 c.purse, .int .i64 c.horizon, .int .i64 c.sample]] w _
 obtain ⟨k, hke⟩ : ∃ k, pl.k = k := ⟨_, rfl⟩
 rw [hke] at hb5 hx hb6 hb7 hb8 ⊢
 have HKE := hide hke
 clear hke
 go_enter Tryz.func18, Tryz.ntmps18
 go_upto_region 1 with (fail)
 generalize ((((w.alloc (.cells #[.int .i64 k, .slice a L.length cap] 55)).alloc (.cells #[.int .i64 ac, .int .i64 pr, .int .i64 ve, .bool bn] 62)).alloc (.cells #[c.sv, c.ev, c.rv, c.tv, .int .i64 c.w0, .int .i64 c.w1, .int .i64 c.w2, .int .i64 c.w3, .int .i64 c.w4, .int .i64 c.w5, .int .i64 c.w6, .int .i64 c.panic, .int .i64 c.low, .int .i64 c.high, .int .i64 c.wait, .int .i64 c.hop, .int .i64 c.life, .int .i64 c.purse, .int .i64 c.horizon, .int .i64 c.sample] 30)).alloc (.cells #[.int .i64 0, .slice none 0 0] 55)) = W at hx hb5 hb6 hb7 hb8 ⊢
 obtain ⟨b5, hb5e⟩ : ∃ b, w.heap.size = b := ⟨_, rfl⟩
 rw [hb5e] at hb5 hb6 hb7 hb8 ⊢
 obtain ⟨b6, hb6e⟩ : ∃ b, b5 + 1 = b := ⟨_, rfl⟩
 rw [hb6e] at hb6 hb7 hb8 ⊢
 obtain ⟨b7, hb7e⟩ : ∃ b, b6 + 1 = b := ⟨_, rfl⟩
 rw [hb7e] at hb7 hb8 ⊢
 obtain ⟨b8, hb8e⟩ : ∃ b, b7 + 1 = b := ⟨_, rfl⟩
 rw [hb8e] at hb8 ⊢
 have hw8 : w.heap.size ≤ b8 := by omega
 have HX := hide hx
 have HB5 := hide hb5
 have HB6 := hide hb6
 obtain ⟨Ab, hAb⟩ : ∃ Ab : ActD, Ab = ⟨ac, pr, ve, bn⟩ := ⟨_, rfl⟩
 have HAP := hide (show Ab.pr = pr ∧ Ab.ver = ve by rw [hAb]; exact ⟨rfl, rfl⟩)
 have HB6A := hide (show BoxA W b6 Ab by rw [hAb]; exact hb6)
 clear hAb
 have HB7 := hide hb7
 have HB8 := hide hb8
 have a0 := hb6.cell 0 _ rfl
 have a1 := hb6.cell 1 _ rfl
 have a2 := hb6.cell 2 _ rfl
 have c0 := hb5.c0
 have c1 := hb5.c1
 clear hx hb5 hb6 hb7 hb8
 by_cases h0 : ac = 0
 ·have hpub := rpub_any k (.slice a L.length cap) L c W (HS.out.ext HX.out) (HOC.out.ok.ext HX.out) hcf hcr (by have := HBO.out.len; omega)
  obtain ⟨L', hL'⟩ : ∃ L', L ++ [ver0] = L' := ⟨_, rfl⟩
  rw [hL'] at hpub
  obtain ⟨n1, hn1⟩ : ∃ n1 : Int, (L.length : Int) + 1 = n1 := ⟨_, rfl⟩
  rw [hn1] at hpub
  have hpp : ∀ X, Pl B N X p bm pl → Ext W X → Calls Tryz.prog 14 #[.pointer (some ⟨p, 0, none⟩), .agg #[c.sv, c.ev, c.rv, c.tv, .int .i64 c.w0, .int .i64 c.w1, .int .i64 c.w2, .int .i64 c.w3, .int .i64 c.w4, .int .i64 c.w5, .int .i64 c.w6, .int .i64 c.panic, .int .i64 c.low, .int .i64 c.high, .int .i64 c.wait, .int .i64 c.hop, .int .i64 c.life, .int .i64 c.purse, .int .i64 c.horizon, .int .i64 c.sample]] X fun e w' => e = .returned (.tuple #[.int .i64 n1, .int .i64 0]) ∧ (∃ b, Pl B (N + 1) w' p bm (pubP pl b)) ∧ KP B X w' := fun X hX hE => by
   have h := pl_publish hX C c (HOC.out.ext (HX.out.trans hE)) (Nat.le_trans hC (HX.out.trans hE).size) hcf hcl hcr (HMX.out.ext (HX.out.trans hE)) (by rw [HBO.out.sim.len]; have := HBO.out.len; omega) (Nat.le_trans hB (HX.out.trans hE).size)
   rw [HBO.out.sim.len, hn1] at h
   exact h.mono fun e w' ⟨h1, ⟨b, h2⟩, h3⟩ => ⟨h1, ⟨b, h2.mono (Nat.le_succ N)⟩, h3⟩
  have HPUB := hide hpub
  have HPP := hide hpp
  have HLL := hide hL'
  subst h0
  clear hpub hpp hL' hn1
  go_upto_region 3 with (fail)
  refine wp_region_lit ?_
  refine wpList_plain rfl fun K hK => ?_
  go_simp
  refine hK _ _ ?_
  refine wpList_load_mid rfl 30 (.tmp 7) rfl b7 0 rfl (encC c) cd (HB7.out.range) hcd1 hcd2 Tryz.confSize ?_
  simp only [Act.put]
  go_wp2_with fail
  refine HPUB.out.mono ?_
  rintro e W1 ⟨lv', rfl, hva, hfa, E1⟩
  have HFRW := hide (HFR.out.ext HX.out)
  obtain ⟨_, a', cap', rfl⟩ := hva.1.shape
  simp only [pVal]
  have HX1 := hide (HX.out.trans E1)
  have HB71 := hide (HB7.out.ext E1)
  have HB81 := hide (HB8.out.ext E1)
  have HP1 := hide (H.out.ext HX1.out)
  have HVA := hide hva
  have HFA := hide hfa
  have HE1 := hide E1
  clear hva hfa E1 a0 a1 a2 c0 c1 HPUB
  have hx15 : Ext W1 (W1.alloc (.cells #[.int .i64 k, .slice a' L'.length cap'] 55)) := (Below.refl _ _).alloc (Nat.le_refl _) _
  have hb15 := heap_alloc_new W1 (.cells #[.int .i64 k, .slice a' L'.length cap'] 55)
  go_upto_region 4 with (fail)
  generalize W1.alloc (.cells #[.int .i64 k, .slice a' L'.length cap'] 55) = W2 at hx15 hb15 ⊢
  obtain ⟨b15, hb15e⟩ : ∃ b, W1.heap.size = b := ⟨_, rfl⟩
  rw [hb15e] at hb15 ⊢
  have hp2 := HP1.out.ext hx15
  have hb15 : BoxP W2 b15 k (.slice a' L'.length cap') := hb15
  have hb82 := HB81.out.ext hx15
  have hb72 := HB71.out.ext hx15
  have HE12 := hide hx15
  have HP2 := hide hp2
  have HB82 := hide hb82
  have HB72 := hide hb72
  have HB152 := hide hb15
  clear hp2 hb82 hb15 hb72 hx15
  refine wp_region_lit ?_
  refine wpList_plain rfl fun K hK => ?_
  go_simp
  refine hK _ _ ?_
  refine wpList_load_mid rfl 30 (.tmp 7) rfl b7 0 rfl (encC c) cd (HB72.out.range) hcd1 hcd2 Tryz.confSize ?_
  simp only [Act.put]
  go_wp2_with fail
  refine (HPP.out W2 HP2.out (HE1.out.trans HE12.out)).mono ?_
  rintro e W3 ⟨rfl, ⟨bs, hp⟩, hk⟩
  have hb83 := HB82.out.kpx hk
  have hb153 := HB152.out.kpx hk
  have e0 := hb153.c0
  have e1 := hb153.c1
  have d0 := hb83.c0
  have d1 := hb83.c1
  have z0 := hb83.fz 0
  have z1 := hb83.fz 1
  have HB83 := hide hb83
  have hkq : KQ B b8 W2 ((W3.setCell ⟨b8, 0, none⟩ (.int .i64 k)).setCell ⟨b8, 1, none⟩ (.slice a' L'.length cap')) := ((KQ.of_kp hk).set 0 _).set 1 _
  have HKQ := hide hkq
  have HPN := hide (Pl.setP (k' := k) (lv' := .slice a' L'.length cap') hp hb83)
  clear hb83 hb153 hp hk hkq
  go_wp2
  refine bodyPost_ret (results_cell_slot (q := 9) rfl _ _ b8 0 [.int .i64 k, .slice a' L'.length cap'] dp rfl (HB83.out.both.range) hp1 hp2 pSize) rfl ?_
  have hv := (HVA.out.ext HE12.out).kq ((HFA.out HFRW.out).ext HE12.out) HKQ.out ⟨_, _, HB82.out⟩
  refine ⟨.slice a' L'.length cap', rfl, pubP pl bs, L', HKE.out, HPN.out, hv.1, hv.2, ?_, HKQ.out.out (HX1.out.trans HE12.out) hw8⟩
  rw [← HLL.out]
  exact HBO.out.pub bs
 by_cases h3 : ac = 3
 ·have hsay := rsay_any k (.slice a L.length cap) L pr ve false W (HS.out.ext HX.out) (by have := HBO.out.len; omega) hI (fun x hx => by have := HBO.out.words x hx; omega)
  have HSAY := hide hsay
  subst h3
  clear h0 hsay
  go_wp2_with fail
  refine HSAY.out.mono ?_
  rintro e W1 ⟨lv', rfl, L', hva, hfa, hne, heq, E1⟩
  have HFRW := hide (HFR.out.ext HX.out)
  obtain ⟨_, a', cap', rfl⟩ := hva.1.shape
  simp only [pVal]
  have HX1 := hide (HX.out.trans E1)
  have HB61 := hide (HB6A.out.ext E1)
  have HB81 := hide (HB8.out.ext E1)
  have HP1 := hide (H.out.ext HX1.out)
  have HVA := hide hva
  have HFA := hide hfa
  have HNE := hide hne
  have HEQ := hide heq
  clear hva hfa hne heq E1 a0 a1 a2 c0 c1
  have hx15 : Ext W1 (W1.alloc (.cells #[.int .i64 k, .slice a' L'.length cap'] 55)) := (Below.refl _ _).alloc (Nat.le_refl _) _
  have hb15 := heap_alloc_new W1 (.cells #[.int .i64 k, .slice a' L'.length cap'] 55)
  go_upto_region 12 with (fail)
  generalize W1.alloc (.cells #[.int .i64 k, .slice a' L'.length cap'] 55) = W2 at hx15 hb15 ⊢
  obtain ⟨b15, hb15e⟩ : ∃ b, W1.heap.size = b := ⟨_, rfl⟩
  rw [hb15e] at hb15 ⊢
  have hp2 := HP1.out.ext hx15
  have hb15 : BoxP W2 b15 k (.slice a' L'.length cap') := hb15
  have hb82 := HB81.out.ext hx15
  have hb62 := HB61.out.ext hx15
  have e0 := hb15.c0
  have e1 := hb15.c1
  have a1 := hb62.at1 HAP.out.1
  have a2 := hb62.at2 HAP.out.2
  have d0 := hb82.c0
  have d1 := hb82.c1
  have z0 := hb82.fz 0
  have z1 := hb82.fz 1
  have hack : ∀ X, Pl B N X p bm pl → Calls Tryz.prog 46 #[.pointer (some ⟨p, 0, none⟩), .int .i64 pr, .int .i64 ve] X fun e w' => e = .returned (.int .i64 (sayE pl pr ve)) ∧ Pl B (N + 1) w' p bm (if sayE pl pr ve = 0 then sayP pl pr ve 2 else pl) ∧ KP B X w' := fun X hX => pl_nack hX pr ve hI (by omega)
  have hse : sayE pl pr ve = sayR k L pr ve := by rw [← HKE.out]; exact sayR_eq HBO.out.sim pr ve
  obtain ⟨er, her⟩ : ∃ er, sayR k L pr ve = er := ⟨_, rfl⟩
  have HNE := hide (fun (h : er ≠ 0) => HNE.out (by rw [her]; exact h))
  have HEQ := hide (fun (h : er = 0) => HEQ.out (her.trans h))
  rw [her] at hse ⊢
  rw [hse] at hack
  have HNACK := hide hack
  have HSE := hide hse
  have HE12 := hide hx15
  have HP2 := hide hp2
  have HB82 := hide hb82
  have HB62 := hide hb62
  have HB152 := hide hb15
  clear hack hse hp2 hb82 hb62 hb15 hx15 her e0 e1 a1 a2 d0 d1 z0 z1
  have hne15 : b15 ≠ b8 := by have := HB81.out.lt; omega
  have hne6 : b6 ≠ b8 := by omega
  have h0A : Pl B N W2.drew p bm pl := HP2.out.ext ((Below.refl _ _).drew)
  have h0S : BoxP W2.drew b8 0 (.slice none 0 0) := HB82.out.ext ((Below.refl _ _).drew)
  have h0T : BoxP W2.drew b15 k (.slice a' L'.length cap') ∧ BoxA W2.drew b6 Ab ∧ KQ B b8 W2 W2.drew := ⟨HB152.out.ext ((Below.refl _ _).drew), HB62.out.ext ((Below.refl _ _).drew), KQ.of_ext ((Below.refl _ _).drew)⟩
  refine wp_region_two 134 6 9 (fun (t : Nat) (v : Value) => match t with | 0 => v = (.pointer (some ⟨p, 0, none⟩)) | 6 => v = (.pointer (some ⟨b6, 0, none⟩)) | 8 => v = (.pointer (some ⟨b8, 0, none⟩)) | 9 => v = (.bool true) | 17 => v = (.pointer (some ⟨b15, 0, none⟩)) | 18 => v = (.int .i64 er) | 83 => v = (.agg #[.int .i64 k, (.slice a' L'.length cap')]) | 84 => v = (.pointer (some ⟨p, 0, none⟩)) | 85 => v = (.pointer (some ⟨b6, 1, none⟩)) | 86 => v = (.int .i64 pr) | 87 => v = (.pointer (some ⟨b6, 2, none⟩)) | 88 => v = (.int .i64 ve) | 89 => v = (.int .i64 er) | 90 => v = (.int .i64 er) | 91 => v = (.bool true) | _ => True) (fun w' => Pl B N w' p bm pl) (fun w' => Pl B (N + 1) w' p bm (if er = 0 then sayP pl pr ve 2 else pl)) (fun w' => BoxP w' b8 0 (.slice none 0 0)) (fun w' => BoxP w' b8 k (.slice a' L'.length cap')) (fun w' => BoxP w' b15 k (.slice a' L'.length cap') ∧ BoxA w' b6 Ab ∧ KQ B b8 W2 w') (by kernel_rfl) rfl (by kernel_rfl) (by kernel_rfl) (by decide) (by decide) (by decide) ?_ ?_ ?_ ?_ ?_ ?_ ?_ ?_
  ·exact h0A
  ·exact h0S
  ·exact h0T
  ·intro t ht hno
   split <;> first | exact True.intro | exact rfl | exact absurd (hno.symm.trans (by kernel_rfl) : true = false) (by decide)
  ·intro i o ho hic his x w' hT hI K hK
   have hin : i < 11 := (Array.getElem?_eq_some_iff.1 ho).1
   have hi : i = 0 ∨ i = 1 ∨ i = 2 ∨ i = 3 ∨ i = 4 ∨ i = 5 ∨ i = 6 ∨ i = 7 ∨ i = 8 ∨ i = 9 ∨ i = 10 := by omega
   rcases hi with rfl | rfl | rfl | rfl | rfl | rfl | rfl | rfl | rfl | rfl | rfl
   ·obtain rfl := Option.some.inj ho
    have e17 : x 17 = _ := hI 17 (by kernel_rfl)
    have c0 := hT.1.c0
    have c1 := hT.1.c1
    unfold wpOp
    simp only [ho]
    rw [if_pos (by rfl)]
    left
    rw [frame134]
    go_simp
    refine metK (hK.out ((.agg #[.int .i64 k, (.slice a' L'.length cap')])) (fun d hd => by cases hd; exact rfl)) ?_
    simp [frame134, Act.put, *]
   ·obtain rfl := Option.some.inj ho
    have e0 : x 0 = _ := hI 0 (by kernel_rfl)
    unfold wpOp
    simp only [ho]
    rw [if_pos (by rfl)]
    left
    rw [frame134]
    go_simp
    refine metK (hK.out ((.pointer (some ⟨p, 0, none⟩))) (fun d hd => by cases hd; exact rfl)) ?_
    simp [frame134, Act.put, *]
   ·obtain rfl := Option.some.inj ho
    have e6 : x 6 = _ := hI 6 (by kernel_rfl)
    unfold wpOp
    simp only [ho]
    rw [if_pos (by rfl)]
    left
    rw [frame134]
    go_simp
    refine metK (hK.out ((.pointer (some ⟨b6, 1, none⟩))) (fun d hd => by cases hd; exact rfl)) ?_
    simp [frame134, Act.put, *]
   ·obtain rfl := Option.some.inj ho
    have e85 : x 85 = _ := hI 85 (by kernel_rfl)
    have a1 := hT.2.1.at1 HAP.out.1
    unfold wpOp
    simp only [ho]
    rw [if_pos (by rfl)]
    left
    rw [frame134]
    go_simp
    refine metK (hK.out ((.int .i64 pr)) (fun d hd => by cases hd; exact rfl)) ?_
    simp [frame134, Act.put, *]
   ·obtain rfl := Option.some.inj ho
    have e6 : x 6 = _ := hI 6 (by kernel_rfl)
    unfold wpOp
    simp only [ho]
    rw [if_pos (by rfl)]
    left
    rw [frame134]
    go_simp
    refine metK (hK.out ((.pointer (some ⟨b6, 2, none⟩))) (fun d hd => by cases hd; exact rfl)) ?_
    simp [frame134, Act.put, *]
   ·obtain rfl := Option.some.inj ho
    have e87 : x 87 = _ := hI 87 (by kernel_rfl)
    have a2 := hT.2.1.at2 HAP.out.2
    unfold wpOp
    simp only [ho]
    rw [if_pos (by rfl)]
    left
    rw [frame134]
    go_simp
    refine metK (hK.out ((.int .i64 ve)) (fun d hd => by cases hd; exact rfl)) ?_
    simp [frame134, Act.put, *]
   ·first | exact absurd rfl hic | exact absurd rfl his
   ·obtain rfl := Option.some.inj ho
    have e18 : x 18 = _ := hI 18 (by kernel_rfl)
    unfold wpOp
    simp only [ho]
    rw [if_pos (by rfl)]
    left
    rw [frame134]
    go_simp
    refine metK (hK.out ((.int .i64 er)) (fun d hd => by cases hd; exact rfl)) ?_
    simp [frame134, Act.put, *]
   ·obtain rfl := Option.some.inj ho
    have e89 : x 89 = _ := hI 89 (by kernel_rfl)
    have e90 : x 90 = _ := hI 90 (by kernel_rfl)
    unfold wpOp
    simp only [ho]
    rw [if_pos (by rfl)]
    left
    rw [frame134]
    go_simp
    refine metK (hK.out ((.bool true)) (fun d hd => by cases hd; exact rfl)) ?_
    simp [frame134, Act.put, *]
   ·first | exact absurd rfl hic | exact absurd rfl his
   ·obtain rfl := Option.some.inj ho
    have e91 : x 91 = _ := hI 91 (by kernel_rfl)
    unfold wpOp
    simp only [ho]
    rw [if_pos (by rfl)]
    left
    rw [frame134]
    go_simp
    refine metK (hK.out ((.bool true)) (fun d hd => by cases hd; exact rfl)) ?_
    simp [frame134, Act.put, *]
  ·intro o ho x w' Z hZ hA hz hT hI K hK
   obtain rfl := Option.some.inj ho
   have e84 : x 84 = _ := hI 84 (by kernel_rfl)
   have e86 : x 86 = _ := hI 86 (by kernel_rfl)
   have e88 : x 88 = _ := hI 88 (by kernel_rfl)
   unfold wpOp
   simp only [ho]
   rw [if_pos (by rfl)]
   left
   rw [frame134]
   go_simp
   refine (HNACK.out w' hA).mono ?_
   rintro e w9 ⟨rfl, hp9, hk9⟩
   have hz9 : Z w9 := by rcases hZ with rfl | rfl <;> exact BoxP.kpx (show BoxP w' _ _ _ from hz) hk9
   refine metK (hK.out (.int .i64 er) w9 hp9 hz9 ⟨hT.1.kpx hk9, hT.2.1.kpx hk9, hT.2.2.kp hk9⟩ (fun d hd => by cases hd; exact rfl)) ?_
   simp [frame134, Act.put, *]
  ·intro o ho x w' Z hZ hS hz hT hI K hK
   obtain rfl := Option.some.inj ho
   have e8 : x 8 = _ := hI 8 (by kernel_rfl)
   have e83 : x 83 = _ := hI 83 (by kernel_rfl)
   have hS' : BoxP w' b8 0 (.slice none 0 0) := hS
   have d0 := hS'.c0
   have d1 := hS'.c1
   have z0 := hS'.fz 0
   have z1 := hS'.fz 1
   unfold wpOp
   simp only [ho]
   rw [if_pos (by rfl)]
   left
   rw [frame134]
   go_simp
   have hz9 : Z ((w'.setCell ⟨b8, 0, none⟩ (.int .i64 k)).setCell ⟨b8, 1, none⟩ (.slice a' L'.length cap')) := by rcases hZ with rfl | rfl <;> exact Pl.setP (show Pl _ _ w' _ _ _ from hz) hS'
   refine metK (hK.out undef _ hS'.both hz9 ⟨(hT.1.far hne15).far hne15, (hT.2.1.farx hne6).farx hne6, (hT.2.2.set 0 _).set 1 _⟩ (fun d hd => by cases hd)) ?_
   simp [frame134, Act.put, *]
  ·intro x w' hA hS hT hI
   have e0 : x 0 = _ := hI 0 (by decide)
   have e6 : x 6 = _ := hI 6 (by decide)
   have e8 : x 8 = _ := hI 8 (by decide)
   have e9 : x 9 = _ := hI 9 (by decide)
   have e17 : x 17 = _ := hI 17 (by decide)
   have e18 : x 18 = _ := hI 18 (by decide)
   have e83 : x 83 = _ := hI 83 (by decide)
   have e84 : x 84 = _ := hI 84 (by decide)
   have e85 : x 85 = _ := hI 85 (by decide)
   have e86 : x 86 = _ := hI 86 (by decide)
   have e87 : x 87 = _ := hI 87 (by decide)
   have e88 : x 88 = _ := hI 88 (by decide)
   have e89 : x 89 = _ := hI 89 (by decide)
   have e90 : x 90 = _ := hI 90 (by decide)
   have e91 : x 91 = _ := hI 91 (by decide)
   rw [frame134]
   simp only [e0, e6, e8, e9, e17, e18, e83, e84, e85, e86, e87, e88, e89, e90, e91]
   clear hI e0 e6 e8 e9 e17 e18 e83 e84 e85 e86 e87 e88 e89 e90 e91
   have HA := hide hA
   have HSS := hide (show BoxP w' b8 k (.slice a' L'.length cap') from hS)
   have HTT := hide hT
   clear hA hS hT
   go_wp2
   refine bodyPost_ret (results_cell_slot (q := 9) rfl _ _ b8 0 [.int .i64 k, (.slice a' L'.length cap')] dp rfl (HSS.out.range) hp1 hp2 pSize) rfl ?_
   have hv := (HVA.out.ext HE12.out).kq ((HFA.out HFRW.out).ext HE12.out) HTT.out.2.2 ⟨_, _, HB82.out⟩
   refine ⟨(.slice a' L'.length cap'), rfl, (if er = 0 then sayP pl pr ve 2 else pl), L', ?_, HA.out, hv.1, hv.2, ?_, HTT.out.2.2.out (HX1.out.trans HE12.out) hw8⟩
   ·split <;> exact HKE.out
   ·by_cases he : er = 0
    ·rw [if_pos he]
     obtain ⟨u, hu⟩ := HEQ.out he
     have hs := HSE.out.trans he
     obtain ⟨m, hm, hme, -, -⟩ := sayR_zero HBO.out.sim hs
     rw [hu]
     exact HBO.out.say (by omega) false pr u (HBO.out.sim.nack pr ve hs u)
    ·rw [if_neg he, HNE.out he]
     exact HBO.out.mono (Nat.le_succ M)
 by_cases h4 : ac = 4
 ·have hpin := rpin_any k (.slice a L.length cap) L ve W (HS.out.ext HX.out) (by have := HBO.out.len; omega) hI.2 (fun x hx => by have := HBO.out.pins x hx; omega)
  have hlt := liveT_le k L L.length
  have hrng : (if ve = 0 ∨ ve ≠ (liveT k L L.length : Nat) then (17 : Int) else 0) = 0 → (1 ≤ ve ∧ ve ≤ (L.length : Int)) ∧ True := fun h => by
   split at h
   ·exact absurd h (by decide)
   ·rename_i hn
    exact ⟨by omega, trivial⟩
  have hse : pinE pl ve = (if ve = 0 ∨ ve ≠ (liveT k L L.length : Nat) then (17 : Int) else 0) := by first | exact pinE_eq HBO.out.sim ve | (rw [← HKE.out]; exact pinE_eq HBO.out.sim ve)
  obtain ⟨er, her⟩ : ∃ er, (if ve = 0 ∨ ve ≠ (liveT k L L.length : Nat) then (17 : Int) else 0) = er := ⟨_, rfl⟩
  rw [her] at hpin hrng hse
  obtain ⟨L', hL'⟩ : ∃ L', (if er = 0 then L.set (ve.toNat - 1) (pinV (L.getD (ve.toNat - 1) ver0) 1) else L) = L' := ⟨_, rfl⟩
  rw [hL'] at hpin
  have HPIN := hide hpin
  have HRNG := hide hrng
  have HSE := hide hse
  have HLL := hide hL'
  subst h4
  clear h0 hpin hrng hse hL' hlt her h3
  go_wp2_with fail
  refine HPIN.out.mono ?_
  rintro e W1 ⟨lv', rfl, hva, hfa, E1⟩
  have HFRW := hide (HFR.out.ext HX.out)
  obtain ⟨_, a', cap', rfl⟩ := hva.1.shape
  simp only [pVal]
  have HX1 := hide (HX.out.trans E1)
  have HB61 := hide (HB6.out.ext E1)
  have HB81 := hide (HB8.out.ext E1)
  have HP1 := hide (H.out.ext HX1.out)
  have HVA := hide hva
  have HFA := hide hfa
  clear hva hfa E1 a0 a1 a2 c0 c1 HPIN
  have hx15 : Ext W1 (W1.alloc (.cells #[.int .i64 k, .slice a' L'.length cap'] 55)) := (Below.refl _ _).alloc (Nat.le_refl _) _
  have hb15 := heap_alloc_new W1 (.cells #[.int .i64 k, .slice a' L'.length cap'] 55)
  go_upto_region 15 with (fail)
  generalize W1.alloc (.cells #[.int .i64 k, .slice a' L'.length cap'] 55) = W2 at hx15 hb15 ⊢
  obtain ⟨b15, hb15e⟩ : ∃ b, W1.heap.size = b := ⟨_, rfl⟩
  rw [hb15e] at hb15 ⊢
  have hp2 := HP1.out.ext hx15
  have hb15 : BoxP W2 b15 k (.slice a' L'.length cap') := hb15
  have hb82 := HB81.out.ext hx15
  have hb62 := HB61.out.ext hx15
  have hack : ∀ X, Pl B N X p bm pl → Calls Tryz.prog 50 #[.pointer (some ⟨p, 0, none⟩), .int .i64 ve] X fun e w' => e = .returned (.int .i64 er) ∧ Pl B (N + 1) w' p bm (if er = 0 then pinP pl ve 1 else pl) ∧ KP B X w' := fun X hX => by
   have h := pl_pin hX ve hI.2 (HBO.out.pinb (by omega))
   rw [HSE.out] at h
   exact h.mono fun e w' ⟨h1, h2, h3⟩ => ⟨h1, h2.mono (Nat.le_succ N), h3⟩
  have HACK := hide hack
  have HE12 := hide hx15
  have HP2 := hide hp2
  have HB82 := hide hb82
  have HB62 := hide hb62
  have HB152 := hide hb15
  clear hack hp2 hb82 hb62 hb15 hx15
  have hne15 : b15 ≠ b8 := by have := HB81.out.lt; omega
  have hne6 : b6 ≠ b8 := by omega
  have h0A : Pl B N W2.drew p bm pl := HP2.out.ext ((Below.refl _ _).drew)
  have h0S : BoxP W2.drew b8 0 (.slice none 0 0) := HB82.out.ext ((Below.refl _ _).drew)
  have h0T : BoxP W2.drew b15 k (.slice a' L'.length cap') ∧ BoxA W2.drew b6 ⟨4, pr, ve, bn⟩ ∧ KQ B b8 W2 W2.drew := ⟨HB152.out.ext ((Below.refl _ _).drew), HB62.out.ext ((Below.refl _ _).drew), KQ.of_ext ((Below.refl _ _).drew)⟩
  refine wp_region_two 134 4 7 (fun (t : Nat) (v : Value) => match t with | 0 => v = (.pointer (some ⟨p, 0, none⟩)) | 6 => v = (.pointer (some ⟨b6, 0, none⟩)) | 8 => v = (.pointer (some ⟨b8, 0, none⟩)) | 9 => v = (.bool true) | 19 => v = (.pointer (some ⟨b15, 0, none⟩)) | 20 => v = (.int .i64 er) | 101 => v = (.agg #[.int .i64 k, (.slice a' L'.length cap')]) | 102 => v = (.pointer (some ⟨p, 0, none⟩)) | 103 => v = (.pointer (some ⟨b6, 2, none⟩)) | 104 => v = (.int .i64 ve) | 105 => v = (.int .i64 er) | 106 => v = (.int .i64 er) | 107 => v = (.bool true) | _ => True) (fun w' => Pl B N w' p bm pl) (fun w' => Pl B (N + 1) w' p bm (if er = 0 then pinP pl ve 1 else pl)) (fun w' => BoxP w' b8 0 (.slice none 0 0)) (fun w' => BoxP w' b8 k (.slice a' L'.length cap')) (fun w' => BoxP w' b15 k (.slice a' L'.length cap') ∧ BoxA w' b6 ⟨4, pr, ve, bn⟩ ∧ KQ B b8 W2 w') (by kernel_rfl) rfl (by kernel_rfl) (by kernel_rfl) (by decide) (by decide) (by decide) ?_ ?_ ?_ ?_ ?_ ?_ ?_ ?_
  ·exact h0A
  ·exact h0S
  ·exact h0T
  ·intro t ht hno
   split <;> first | exact True.intro | exact rfl | exact absurd (hno.symm.trans (by kernel_rfl) : true = false) (by decide)
  ·intro i o ho hic his x w' hT hI K hK
   have hin : i < 9 := (Array.getElem?_eq_some_iff.1 ho).1
   have hi : i = 0 ∨ i = 1 ∨ i = 2 ∨ i = 3 ∨ i = 4 ∨ i = 5 ∨ i = 6 ∨ i = 7 ∨ i = 8 := by omega
   rcases hi with rfl | rfl | rfl | rfl | rfl | rfl | rfl | rfl | rfl
   ·obtain rfl := Option.some.inj ho
    have e19 : x 19 = _ := hI 19 (by kernel_rfl)
    have c0 := hT.1.c0
    have c1 := hT.1.c1
    unfold wpOp
    simp only [ho]
    rw [if_pos (by rfl)]
    left
    rw [frame134]
    go_simp
    refine metK (hK.out ((.agg #[.int .i64 k, (.slice a' L'.length cap')])) (fun d hd => by cases hd; exact rfl)) ?_
    simp [frame134, Act.put, *]
   ·obtain rfl := Option.some.inj ho
    have e0 : x 0 = _ := hI 0 (by kernel_rfl)
    unfold wpOp
    simp only [ho]
    rw [if_pos (by rfl)]
    left
    rw [frame134]
    go_simp
    refine metK (hK.out ((.pointer (some ⟨p, 0, none⟩))) (fun d hd => by cases hd; exact rfl)) ?_
    simp [frame134, Act.put, *]
   ·obtain rfl := Option.some.inj ho
    have e6 : x 6 = _ := hI 6 (by kernel_rfl)
    unfold wpOp
    simp only [ho]
    rw [if_pos (by rfl)]
    left
    rw [frame134]
    go_simp
    refine metK (hK.out ((.pointer (some ⟨b6, 2, none⟩))) (fun d hd => by cases hd; exact rfl)) ?_
    simp [frame134, Act.put, *]
   ·obtain rfl := Option.some.inj ho
    have e103 : x 103 = _ := hI 103 (by kernel_rfl)
    have a2 := hT.2.1.cell 2 _ rfl
    unfold wpOp
    simp only [ho]
    rw [if_pos (by rfl)]
    left
    rw [frame134]
    go_simp
    refine metK (hK.out ((.int .i64 ve)) (fun d hd => by cases hd; exact rfl)) ?_
    simp [frame134, Act.put, *]
   ·first | exact absurd rfl hic | exact absurd rfl his
   ·obtain rfl := Option.some.inj ho
    have e20 : x 20 = _ := hI 20 (by kernel_rfl)
    unfold wpOp
    simp only [ho]
    rw [if_pos (by rfl)]
    left
    rw [frame134]
    go_simp
    refine metK (hK.out ((.int .i64 er)) (fun d hd => by cases hd; exact rfl)) ?_
    simp [frame134, Act.put, *]
   ·obtain rfl := Option.some.inj ho
    have e105 : x 105 = _ := hI 105 (by kernel_rfl)
    have e106 : x 106 = _ := hI 106 (by kernel_rfl)
    unfold wpOp
    simp only [ho]
    rw [if_pos (by rfl)]
    left
    rw [frame134]
    go_simp
    refine metK (hK.out ((.bool true)) (fun d hd => by cases hd; exact rfl)) ?_
    simp [frame134, Act.put, *]
   ·first | exact absurd rfl hic | exact absurd rfl his
   ·obtain rfl := Option.some.inj ho
    have e107 : x 107 = _ := hI 107 (by kernel_rfl)
    unfold wpOp
    simp only [ho]
    rw [if_pos (by rfl)]
    left
    rw [frame134]
    go_simp
    refine metK (hK.out ((.bool true)) (fun d hd => by cases hd; exact rfl)) ?_
    simp [frame134, Act.put, *]
  ·intro o ho x w' Z hZ hA hz hT hI K hK
   obtain rfl := Option.some.inj ho
   have e102 : x 102 = _ := hI 102 (by kernel_rfl)
   have e104 : x 104 = _ := hI 104 (by kernel_rfl)
   unfold wpOp
   simp only [ho]
   rw [if_pos (by rfl)]
   left
   rw [frame134]
   go_simp
   refine (HACK.out w' hA).mono ?_
   rintro e w9 ⟨rfl, hp9, hk9⟩
   have hz9 : Z w9 := by rcases hZ with rfl | rfl <;> exact BoxP.kpx (show BoxP w' _ _ _ from hz) hk9
   refine metK (hK.out (.int .i64 er) w9 hp9 hz9 ⟨hT.1.kpx hk9, hT.2.1.kpx hk9, hT.2.2.kp hk9⟩ (fun d hd => by cases hd; exact rfl)) ?_
   simp [frame134, Act.put, *]
  ·intro o ho x w' Z hZ hS hz hT hI K hK
   obtain rfl := Option.some.inj ho
   have e8 : x 8 = _ := hI 8 (by kernel_rfl)
   have e101 : x 101 = _ := hI 101 (by kernel_rfl)
   have hS' : BoxP w' b8 0 (.slice none 0 0) := hS
   have d0 := hS'.c0
   have d1 := hS'.c1
   have z0 := hS'.fz 0
   have z1 := hS'.fz 1
   unfold wpOp
   simp only [ho]
   rw [if_pos (by rfl)]
   left
   rw [frame134]
   go_simp
   have hz9 : Z ((w'.setCell ⟨b8, 0, none⟩ (.int .i64 k)).setCell ⟨b8, 1, none⟩ (.slice a' L'.length cap')) := by rcases hZ with rfl | rfl <;> exact Pl.setP (show Pl _ _ w' _ _ _ from hz) hS'
   refine metK (hK.out undef _ hS'.both hz9 ⟨(hT.1.far hne15).far hne15, (hT.2.1.farx hne6).farx hne6, (hT.2.2.set 0 _).set 1 _⟩ (fun d hd => by cases hd)) ?_
   simp [frame134, Act.put, *]
  ·intro x w' hA hS hT hI
   have e0 : x 0 = _ := hI 0 (by decide)
   have e6 : x 6 = _ := hI 6 (by decide)
   have e8 : x 8 = _ := hI 8 (by decide)
   have e9 : x 9 = _ := hI 9 (by decide)
   have e19 : x 19 = _ := hI 19 (by decide)
   have e20 : x 20 = _ := hI 20 (by decide)
   have e101 : x 101 = _ := hI 101 (by decide)
   have e102 : x 102 = _ := hI 102 (by decide)
   have e103 : x 103 = _ := hI 103 (by decide)
   have e104 : x 104 = _ := hI 104 (by decide)
   have e105 : x 105 = _ := hI 105 (by decide)
   have e106 : x 106 = _ := hI 106 (by decide)
   have e107 : x 107 = _ := hI 107 (by decide)
   rw [frame134]
   simp only [e0, e6, e8, e9, e19, e20, e101, e102, e103, e104, e105, e106, e107]
   clear hI e0 e6 e8 e9 e19 e20 e101 e102 e103 e104 e105 e106 e107
   have HA := hide hA
   have HSS := hide (show BoxP w' b8 k (.slice a' L'.length cap') from hS)
   have HTT := hide hT
   clear hA hS hT
   go_wp2
   refine bodyPost_ret (results_cell_slot (q := 9) rfl _ _ b8 0 [.int .i64 k, (.slice a' L'.length cap')] dp rfl (HSS.out.range) hp1 hp2 pSize) rfl ?_
   have hv := (HVA.out.ext HE12.out).kq ((HFA.out HFRW.out).ext HE12.out) HTT.out.2.2 ⟨_, _, HB82.out⟩
   refine ⟨(.slice a' L'.length cap'), rfl, (if er = 0 then pinP pl ve 1 else pl), L', ?_, HA.out, hv.1, hv.2, ?_, HTT.out.2.2.out (HX1.out.trans HE12.out) hw8⟩
   ·split <;> exact HKE.out
   ·rw [← HLL.out]
    by_cases he : er = 0
    ·rw [if_pos he, if_pos he]
     have hr := HRNG.out he
     exact HBO.out.pin ve 1 hr.1 (.inl rfl)
    ·rw [if_neg he, if_neg he]
     exact HBO.out.mono (Nat.le_succ M)
 by_cases h5 : ac = 5
 ·have hpin := runpin_any k (.slice a L.length cap) L ve W (HS.out.ext HX.out) (by have := HBO.out.len; omega) hI.2 (fun x hx => by have := HBO.out.pins x hx; omega)
  have hlt := liveT_le k L L.length
  have hrng : (if ve < 1 ∨ ve > (L.length : Int) ∨ (L.getD (ve.toNat - 1) ver0).pins = 0 then (17 : Int) else 0) = 0 → (1 ≤ ve ∧ ve ≤ (L.length : Int)) ∧ (L.getD (ve.toNat - 1) ver0).pins ≠ 0 := fun h => by
   split at h
   ·exact absurd h (by decide)
   ·rename_i hn
    refine ⟨⟨?_, ?_⟩, ?_⟩
    ·exact Classical.not_not.1 fun e => hn (.inl (by omega))
    ·exact Classical.not_not.1 fun e => hn (.inr (.inl (by omega)))
    ·exact fun e => hn (.inr (.inr e))
  have hse : unpE pl ve = (if ve < 1 ∨ ve > (L.length : Int) ∨ (L.getD (ve.toNat - 1) ver0).pins = 0 then (17 : Int) else 0) := by first | exact unpE_eq HBO.out.sim ve | (rw [← HKE.out]; exact unpE_eq HBO.out.sim ve)
  obtain ⟨er, her⟩ : ∃ er, (if ve < 1 ∨ ve > (L.length : Int) ∨ (L.getD (ve.toNat - 1) ver0).pins = 0 then (17 : Int) else 0) = er := ⟨_, rfl⟩
  rw [her] at hpin hrng hse
  obtain ⟨L', hL'⟩ : ∃ L', (if er = 0 then L.set (ve.toNat - 1) (pinV (L.getD (ve.toNat - 1) ver0) (-1)) else L) = L' := ⟨_, rfl⟩
  rw [hL'] at hpin
  have HPIN := hide hpin
  have HRNG := hide hrng
  have HSE := hide hse
  have HLL := hide hL'
  subst h5
  clear h0 hpin hrng hse hL' hlt her h3 h4
  go_wp2_with fail
  refine HPIN.out.mono ?_
  rintro e W1 ⟨lv', rfl, hva, hfa, E1⟩
  have HFRW := hide (HFR.out.ext HX.out)
  obtain ⟨_, a', cap', rfl⟩ := hva.1.shape
  simp only [pVal]
  have HX1 := hide (HX.out.trans E1)
  have HB61 := hide (HB6.out.ext E1)
  have HB81 := hide (HB8.out.ext E1)
  have HP1 := hide (H.out.ext HX1.out)
  have HVA := hide hva
  have HFA := hide hfa
  clear hva hfa E1 a0 a1 a2 c0 c1 HPIN
  have hx15 : Ext W1 (W1.alloc (.cells #[.int .i64 k, .slice a' L'.length cap'] 55)) := (Below.refl _ _).alloc (Nat.le_refl _) _
  have hb15 := heap_alloc_new W1 (.cells #[.int .i64 k, .slice a' L'.length cap'] 55)
  go_upto_region 18 with (fail)
  generalize W1.alloc (.cells #[.int .i64 k, .slice a' L'.length cap'] 55) = W2 at hx15 hb15 ⊢
  obtain ⟨b15, hb15e⟩ : ∃ b, W1.heap.size = b := ⟨_, rfl⟩
  rw [hb15e] at hb15 ⊢
  have hp2 := HP1.out.ext hx15
  have hb15 : BoxP W2 b15 k (.slice a' L'.length cap') := hb15
  have hb82 := HB81.out.ext hx15
  have hb62 := HB61.out.ext hx15
  have hack : ∀ X, Pl B N X p bm pl → Calls Tryz.prog 52 #[.pointer (some ⟨p, 0, none⟩), .int .i64 ve] X fun e w' => e = .returned (.int .i64 er) ∧ Pl B (N + 1) w' p bm (if er = 0 then pinP pl ve (-1) else pl) ∧ KP B X w' := fun X hX => by
   have h := pl_unpin hX ve hI.2 (HBO.out.pinb (by omega))
   rw [HSE.out] at h
   exact h.mono fun e w' ⟨h1, h2, h3⟩ => ⟨h1, h2.mono (Nat.le_succ N), h3⟩
  have HACK := hide hack
  have HE12 := hide hx15
  have HP2 := hide hp2
  have HB82 := hide hb82
  have HB62 := hide hb62
  have HB152 := hide hb15
  clear hack hp2 hb82 hb62 hb15 hx15
  have hne15 : b15 ≠ b8 := by have := HB81.out.lt; omega
  have hne6 : b6 ≠ b8 := by omega
  have h0A : Pl B N W2.drew p bm pl := HP2.out.ext ((Below.refl _ _).drew)
  have h0S : BoxP W2.drew b8 0 (.slice none 0 0) := HB82.out.ext ((Below.refl _ _).drew)
  have h0T : BoxP W2.drew b15 k (.slice a' L'.length cap') ∧ BoxA W2.drew b6 ⟨5, pr, ve, bn⟩ ∧ KQ B b8 W2 W2.drew := ⟨HB152.out.ext ((Below.refl _ _).drew), HB62.out.ext ((Below.refl _ _).drew), KQ.of_ext ((Below.refl _ _).drew)⟩
  refine wp_region_two 134 4 7 (fun (t : Nat) (v : Value) => match t with | 0 => v = (.pointer (some ⟨p, 0, none⟩)) | 6 => v = (.pointer (some ⟨b6, 0, none⟩)) | 8 => v = (.pointer (some ⟨b8, 0, none⟩)) | 9 => v = (.bool true) | 21 => v = (.pointer (some ⟨b15, 0, none⟩)) | 22 => v = (.int .i64 er) | 117 => v = (.agg #[.int .i64 k, (.slice a' L'.length cap')]) | 118 => v = (.pointer (some ⟨p, 0, none⟩)) | 119 => v = (.pointer (some ⟨b6, 2, none⟩)) | 120 => v = (.int .i64 ve) | 121 => v = (.int .i64 er) | 122 => v = (.int .i64 er) | 123 => v = (.bool true) | _ => True) (fun w' => Pl B N w' p bm pl) (fun w' => Pl B (N + 1) w' p bm (if er = 0 then pinP pl ve (-1) else pl)) (fun w' => BoxP w' b8 0 (.slice none 0 0)) (fun w' => BoxP w' b8 k (.slice a' L'.length cap')) (fun w' => BoxP w' b15 k (.slice a' L'.length cap') ∧ BoxA w' b6 ⟨5, pr, ve, bn⟩ ∧ KQ B b8 W2 w') (by kernel_rfl) rfl (by kernel_rfl) (by kernel_rfl) (by decide) (by decide) (by decide) ?_ ?_ ?_ ?_ ?_ ?_ ?_ ?_
  ·exact h0A
  ·exact h0S
  ·exact h0T
  ·intro t ht hno
   split <;> first | exact True.intro | exact rfl | exact absurd (hno.symm.trans (by kernel_rfl) : true = false) (by decide)
  ·intro i o ho hic his x w' hT hI K hK
   have hin : i < 9 := (Array.getElem?_eq_some_iff.1 ho).1
   have hi : i = 0 ∨ i = 1 ∨ i = 2 ∨ i = 3 ∨ i = 4 ∨ i = 5 ∨ i = 6 ∨ i = 7 ∨ i = 8 := by omega
   rcases hi with rfl | rfl | rfl | rfl | rfl | rfl | rfl | rfl | rfl
   ·obtain rfl := Option.some.inj ho
    have e21 : x 21 = _ := hI 21 (by kernel_rfl)
    have c0 := hT.1.c0
    have c1 := hT.1.c1
    unfold wpOp
    simp only [ho]
    rw [if_pos (by rfl)]
    left
    rw [frame134]
    go_simp
    refine metK (hK.out ((.agg #[.int .i64 k, (.slice a' L'.length cap')])) (fun d hd => by cases hd; exact rfl)) ?_
    simp [frame134, Act.put, *]
   ·obtain rfl := Option.some.inj ho
    have e0 : x 0 = _ := hI 0 (by kernel_rfl)
    unfold wpOp
    simp only [ho]
    rw [if_pos (by rfl)]
    left
    rw [frame134]
    go_simp
    refine metK (hK.out ((.pointer (some ⟨p, 0, none⟩))) (fun d hd => by cases hd; exact rfl)) ?_
    simp [frame134, Act.put, *]
   ·obtain rfl := Option.some.inj ho
    have e6 : x 6 = _ := hI 6 (by kernel_rfl)
    unfold wpOp
    simp only [ho]
    rw [if_pos (by rfl)]
    left
    rw [frame134]
    go_simp
    refine metK (hK.out ((.pointer (some ⟨b6, 2, none⟩))) (fun d hd => by cases hd; exact rfl)) ?_
    simp [frame134, Act.put, *]
   ·obtain rfl := Option.some.inj ho
    have e119 : x 119 = _ := hI 119 (by kernel_rfl)
    have a2 := hT.2.1.cell 2 _ rfl
    unfold wpOp
    simp only [ho]
    rw [if_pos (by rfl)]
    left
    rw [frame134]
    go_simp
    refine metK (hK.out ((.int .i64 ve)) (fun d hd => by cases hd; exact rfl)) ?_
    simp [frame134, Act.put, *]
   ·first | exact absurd rfl hic | exact absurd rfl his
   ·obtain rfl := Option.some.inj ho
    have e22 : x 22 = _ := hI 22 (by kernel_rfl)
    unfold wpOp
    simp only [ho]
    rw [if_pos (by rfl)]
    left
    rw [frame134]
    go_simp
    refine metK (hK.out ((.int .i64 er)) (fun d hd => by cases hd; exact rfl)) ?_
    simp [frame134, Act.put, *]
   ·obtain rfl := Option.some.inj ho
    have e121 : x 121 = _ := hI 121 (by kernel_rfl)
    have e122 : x 122 = _ := hI 122 (by kernel_rfl)
    unfold wpOp
    simp only [ho]
    rw [if_pos (by rfl)]
    left
    rw [frame134]
    go_simp
    refine metK (hK.out ((.bool true)) (fun d hd => by cases hd; exact rfl)) ?_
    simp [frame134, Act.put, *]
   ·first | exact absurd rfl hic | exact absurd rfl his
   ·obtain rfl := Option.some.inj ho
    have e123 : x 123 = _ := hI 123 (by kernel_rfl)
    unfold wpOp
    simp only [ho]
    rw [if_pos (by rfl)]
    left
    rw [frame134]
    go_simp
    refine metK (hK.out ((.bool true)) (fun d hd => by cases hd; exact rfl)) ?_
    simp [frame134, Act.put, *]
  ·intro o ho x w' Z hZ hA hz hT hI K hK
   obtain rfl := Option.some.inj ho
   have e118 : x 118 = _ := hI 118 (by kernel_rfl)
   have e120 : x 120 = _ := hI 120 (by kernel_rfl)
   unfold wpOp
   simp only [ho]
   rw [if_pos (by rfl)]
   left
   rw [frame134]
   go_simp
   refine (HACK.out w' hA).mono ?_
   rintro e w9 ⟨rfl, hp9, hk9⟩
   have hz9 : Z w9 := by rcases hZ with rfl | rfl <;> exact BoxP.kpx (show BoxP w' _ _ _ from hz) hk9
   refine metK (hK.out (.int .i64 er) w9 hp9 hz9 ⟨hT.1.kpx hk9, hT.2.1.kpx hk9, hT.2.2.kp hk9⟩ (fun d hd => by cases hd; exact rfl)) ?_
   simp [frame134, Act.put, *]
  ·intro o ho x w' Z hZ hS hz hT hI K hK
   obtain rfl := Option.some.inj ho
   have e8 : x 8 = _ := hI 8 (by kernel_rfl)
   have e117 : x 117 = _ := hI 117 (by kernel_rfl)
   have hS' : BoxP w' b8 0 (.slice none 0 0) := hS
   have d0 := hS'.c0
   have d1 := hS'.c1
   have z0 := hS'.fz 0
   have z1 := hS'.fz 1
   unfold wpOp
   simp only [ho]
   rw [if_pos (by rfl)]
   left
   rw [frame134]
   go_simp
   have hz9 : Z ((w'.setCell ⟨b8, 0, none⟩ (.int .i64 k)).setCell ⟨b8, 1, none⟩ (.slice a' L'.length cap')) := by rcases hZ with rfl | rfl <;> exact Pl.setP (show Pl _ _ w' _ _ _ from hz) hS'
   refine metK (hK.out undef _ hS'.both hz9 ⟨(hT.1.far hne15).far hne15, (hT.2.1.farx hne6).farx hne6, (hT.2.2.set 0 _).set 1 _⟩ (fun d hd => by cases hd)) ?_
   simp [frame134, Act.put, *]
  ·intro x w' hA hS hT hI
   have e0 : x 0 = _ := hI 0 (by decide)
   have e6 : x 6 = _ := hI 6 (by decide)
   have e8 : x 8 = _ := hI 8 (by decide)
   have e9 : x 9 = _ := hI 9 (by decide)
   have e21 : x 21 = _ := hI 21 (by decide)
   have e22 : x 22 = _ := hI 22 (by decide)
   have e117 : x 117 = _ := hI 117 (by decide)
   have e118 : x 118 = _ := hI 118 (by decide)
   have e119 : x 119 = _ := hI 119 (by decide)
   have e120 : x 120 = _ := hI 120 (by decide)
   have e121 : x 121 = _ := hI 121 (by decide)
   have e122 : x 122 = _ := hI 122 (by decide)
   have e123 : x 123 = _ := hI 123 (by decide)
   rw [frame134]
   simp only [e0, e6, e8, e9, e21, e22, e117, e118, e119, e120, e121, e122, e123]
   clear hI e0 e6 e8 e9 e21 e22 e117 e118 e119 e120 e121 e122 e123
   have HA := hide hA
   have HSS := hide (show BoxP w' b8 k (.slice a' L'.length cap') from hS)
   have HTT := hide hT
   clear hA hS hT
   go_wp2
   refine bodyPost_ret (results_cell_slot (q := 9) rfl _ _ b8 0 [.int .i64 k, (.slice a' L'.length cap')] dp rfl (HSS.out.range) hp1 hp2 pSize) rfl ?_
   have hv := (HVA.out.ext HE12.out).kq ((HFA.out HFRW.out).ext HE12.out) HTT.out.2.2 ⟨_, _, HB82.out⟩
   refine ⟨(.slice a' L'.length cap'), rfl, (if er = 0 then pinP pl ve (-1) else pl), L', ?_, HA.out, hv.1, hv.2, ?_, HTT.out.2.2.out (HX1.out.trans HE12.out) hw8⟩
   ·split <;> exact HKE.out
   ·rw [← HLL.out]
    by_cases he : er = 0
    ·rw [if_pos he, if_pos he]
     have hr := HRNG.out he
     exact HBO.out.pin ve (-1) hr.1 (.inr ⟨rfl, hr.2⟩)
    ·rw [if_neg he, if_neg he]
     exact HBO.out.mono (Nat.le_succ M)
 by_cases h6 : ac = 6
 ·have hdr := rdrop_any k (.slice a L.length cap) L W (HS.out.ext HX.out) (by have := HBO.out.len; omega)
  obtain ⟨t, ht⟩ : ∃ t, liveT k L L.length - 1 = t := ⟨_, rfl⟩
  rw [ht] at hdr
  have hlt : t ≤ L.length := by have := liveT_le k L L.length; omega
  have hgn : goneN pl t = goneL L t := goneN_eq HBO.out.sim t hlt
  have hlv : liveN pl - 1 = t := by rw [← liveT_live HBO.out.sim, HKE.out]; exact ht
  obtain ⟨G, hG⟩ : ∃ G, goneL L t = G := ⟨_, rfl⟩
  rw [hG] at hdr hgn
  have hdc : ∀ X, Pl B N X p bm pl → Calls Tryz.prog 54 #[.pointer (some ⟨p, 0, none⟩)] X fun e w' => ∃ v', e = .returned v' ∧ (Ints w' v' G ∧ Far w' v') ∧ Pl B (N + 1) w' p bm (dropN pl t) ∧ KP B X w' := fun X hX => by
   have h := pl_drop hX (by rw [HBO.out.sim.len]; have := HBO.out.len; omega)
   rw [hlv, hgn] at h
   exact h.mono fun e w' ⟨v', h1, h2, h3, h4⟩ => ⟨v', h1, ⟨Sl.of_own' (enc := encI) (fun _ => rfl) h2, Far.of_own h2 (by decide) (by decide) (by decide)⟩, h3.mono (Nat.le_succ N), h4⟩
  obtain ⟨L', hL'⟩ : ∃ L', dropL L t = L' := ⟨_, rfl⟩
  rw [hL'] at hdr
  have HDR := hide hdr
  have HDC := hide hdc
  have HLL := hide hL'
  subst h6
  clear h0 h3 h4 h5 hdr hdc hL' hG hgn hlv ht hlt
  go_wp2_with fail
  refine HDR.out.mono ?_
  rintro e W1 ⟨lv', vg, rfl, hva, hfa, hgo, E1⟩
  have HFRW := hide (HFR.out.ext HX.out)
  obtain ⟨_, a', cap', rfl⟩ := hva.1.shape
  obtain ⟨ag, cg, rfl⟩ := owns_shape hgo
  have hig : Ints W1 (.slice ag G.length cg) G := Sl.of_own' (enc := encI) (fun _ => rfl) hgo
  have hfg : Far W1 (.slice ag G.length cg) := Far.of_own hgo (by decide) (by decide) (by decide)
  simp only [pVal]
  have HX1 := hide (HX.out.trans E1)
  have HB61 := hide (HB6.out.ext E1)
  have HB81 := hide (HB8.out.ext E1)
  have HP1 := hide (H.out.ext HX1.out)
  have HVA := hide hva
  have HFA := hide hfa
  clear hva hfa E1 a0 a1 a2 c0 c1 HDR hgo
  have hx15 : Ext W1 (W1.alloc (.cells #[.int .i64 k, .slice a' L'.length cap'] 55)) := (Below.refl _ _).alloc (Nat.le_refl _) _
  have hb15 := heap_alloc_new W1 (.cells #[.int .i64 k, .slice a' L'.length cap'] 55)
  go_upto_region 20 with (fail)
  generalize W1.alloc (.cells #[.int .i64 k, .slice a' L'.length cap'] 55) = W2 at hx15 hb15 ⊢
  obtain ⟨b15, hb15e⟩ : ∃ b, W1.heap.size = b := ⟨_, rfl⟩
  rw [hb15e] at hb15 ⊢
  have hp2 := HP1.out.ext hx15
  have hb15 : BoxP W2 b15 k (.slice a' L'.length cap') := hb15
  have hb82 := HB81.out.ext hx15
  have hfgx : ∀ w' w9, KQ B b8 W2 w' → TyP w' b8 → Ints w' (.slice ag G.length cg) G → KP B w' w9 → Ints w9 (.slice ag G.length cg) G := fun w' w9 h1 h2 h3 h4 => sl_farq h3 ((hfg.ext hx15).keepq h1 hb82.ty) (KQ.of_kp h4) h2
  have hfsx : ∀ w' w9, KQ B b8 W2 w' → TyP w' b8 → Ints w' (.slice ag G.length cg) G → KQ B b8 w' w9 → Ints w9 (.slice ag G.length cg) G := fun w' w9 h1 h2 h3 h4 => sl_farq h3 ((hfg.ext hx15).keepq h1 hb82.ty) h4 h2
  have HFG := hide hfgx
  have HFS := hide hfsx
  have HIG := hide (hig.ext hx15)
  have HE12 := hide hx15
  have HP2 := hide hp2
  have HB82 := hide hb82
  have HB152 := hide hb15
  clear hp2 hb82 hb15 hx15 hfgx hfsx hig hfg
  have hne15 : b15 ≠ b8 := by have := HB81.out.lt; omega
  have h0A : Pl B N W2.drew p bm pl := HP2.out.ext ((Below.refl _ _).drew)
  have h0S : BoxP W2.drew b8 0 (.slice none 0 0) := HB82.out.ext ((Below.refl _ _).drew)
  have h0T : BoxP W2.drew b15 k (.slice a' L'.length cap') ∧ KQ B b8 W2 W2.drew ∧ TyP W2.drew b8 ∧ Ints W2.drew (.slice ag G.length cg) G := ⟨HB152.out.ext ((Below.refl _ _).drew), KQ.of_ext ((Below.refl _ _).drew), (HB82.out.ext ((Below.refl _ _).drew)).ty, HIG.out.ext ((Below.refl _ _).drew)⟩
  refine wp_region_duo 134 2 5 (fun (t : Nat) (wI : World) (v : Value) => match t with | 0 => v = (.pointer (some ⟨p, 0, none⟩)) | 8 => v = (.pointer (some ⟨b8, 0, none⟩)) | 9 => v = (.bool true) | 23 => v = (.pointer (some ⟨b15, 0, none⟩)) | 24 => v = (.slice ag G.length cg) | 129 => v = (.agg #[.int .i64 k, (.slice a' L'.length cap')]) | 130 => v = (.pointer (some ⟨p, 0, none⟩)) | 131 => Ints wI v G ∧ Far wI v ∧ TyP wI b8 | 132 => v = (.slice ag G.length cg) | 133 => v = (.bool true) | _ => True) (KQT B b8) (fun w' => Pl B N w' p bm pl) (fun w' => Pl B (N + 1) w' p bm (dropN pl t)) (fun w' => BoxP w' b8 0 (.slice none 0 0)) (fun w' => BoxP w' b8 k (.slice a' L'.length cap')) (fun w' => BoxP w' b15 k (.slice a' L'.length cap') ∧ KQ B b8 W2 w' ∧ TyP w' b8 ∧ Ints w' (.slice ag G.length cg) G) (by kernel_rfl) rfl (by kernel_rfl) (by kernel_rfl) (by decide) (by decide) (by decide) ?_ ?_ ?_ ?_ ?_ ?_ ?_ ?_ ?_
  ·exact h0A
  ·exact h0S
  ·exact h0T
  ·intro t w' w'' v hR hv
   split at hv <;> first | exact hv | (exact ⟨sl_farq hv.1 hv.2.1 hR.1 hv.2.2, hv.2.1.keepq hR.1 hv.2.2, hR.2 hv.2.2⟩)
  ·intro t ht hno
   split <;> first | exact True.intro | exact rfl | exact absurd (hno.symm.trans (by kernel_rfl) : true = false) (by decide)
  ·intro i o ho hic his x w' hT hI K hK
   have hin : i < 7 := (Array.getElem?_eq_some_iff.1 ho).1
   have hi : i = 0 ∨ i = 1 ∨ i = 2 ∨ i = 3 ∨ i = 4 ∨ i = 5 ∨ i = 6 := by omega
   rcases hi with rfl | rfl | rfl | rfl | rfl | rfl | rfl
   ·obtain rfl := Option.some.inj ho
    have e23 : x 23 = _ := hI 23 (by kernel_rfl)
    have c0 := hT.1.c0
    have c1 := hT.1.c1
    unfold wpOp
    simp only [ho]
    rw [if_pos (by rfl)]
    left
    rw [frame134]
    go_simp
    refine metK (hK.out ((.agg #[.int .i64 k, (.slice a' L'.length cap')])) _ (KQT.refl _ _ _) (fun h => h) (fun h => h) (fun h => h) (fun h => h) hT (fun d hd => by cases hd; exact rfl)) ?_
    simp [frame134, Act.put, *]
   ·obtain rfl := Option.some.inj ho
    have e0 : x 0 = _ := hI 0 (by kernel_rfl)
    unfold wpOp
    simp only [ho]
    rw [if_pos (by rfl)]
    left
    rw [frame134]
    go_simp
    refine metK (hK.out ((.pointer (some ⟨p, 0, none⟩))) _ (KQT.refl _ _ _) (fun h => h) (fun h => h) (fun h => h) (fun h => h) hT (fun d hd => by cases hd; exact rfl)) ?_
    simp [frame134, Act.put, *]
   ·first | exact absurd rfl hic | exact absurd rfl his
   ·obtain rfl := Option.some.inj ho
    have e24 : x 24 = _ := hI 24 (by kernel_rfl)
    unfold wpOp
    simp only [ho]
    rw [if_pos (by rfl)]
    left
    rw [frame134]
    go_simp
    refine metK (hK.out ((.slice ag G.length cg)) _ (KQT.refl _ _ _) (fun h => h) (fun h => h) (fun h => h) (fun h => h) hT (fun d hd => by cases hd; exact rfl)) ?_
    simp [frame134, Act.put, *]
   ·obtain rfl := Option.some.inj ho
    have y131 := hI 131 (by kernel_rfl)
    have e132 : x 132 = _ := hI 132 (by kernel_rfl)
    obtain ⟨hz1, hz2, hz3⟩ := y131
    obtain ⟨_, ah, ch, hv131⟩ := hz1.shape
    have e131 := hv131
    rw [hv131] at hz1
    unfold wpOp
    simp only [ho]
    rw [if_pos (by rfl)]
    left
    rw [frame134]
    go_simp
    refine (sameInts_any G G _ _ w' hz1 (hT.2.2.2)).mono ?_
    rintro e w9 ⟨rfl, E9⟩
    rw [show sameInts G G = true from decide_eq_true rfl]
    refine metK (hK.out (.bool true) w9 (KQT.of_ext E9) (fun h => Pl.ext (show Pl B N w' p bm pl from h) E9) (fun h => Pl.ext (show Pl B (N + 1) w' p bm (dropN pl t) from h) E9) (fun h => BoxP.ext (show BoxP w' b8 0 (.slice none 0 0) from h) E9) (fun h => BoxP.ext (show BoxP w' b8 k (.slice a' L'.length cap') from h) E9) ⟨hT.1.ext E9, hT.2.1.kp (KP.of_ext E9), TyP.ext hT.2.2.1 E9, hT.2.2.2.ext E9⟩ (fun d hd => by cases hd; exact rfl)) ?_
    simp [frame134, Act.put, *]
   ·first | exact absurd rfl hic | exact absurd rfl his
   ·obtain rfl := Option.some.inj ho
    have e133 : x 133 = _ := hI 133 (by kernel_rfl)
    unfold wpOp
    simp only [ho]
    rw [if_pos (by rfl)]
    left
    rw [frame134]
    go_simp
    refine metK (hK.out ((.bool true)) _ (KQT.refl _ _ _) (fun h => h) (fun h => h) (fun h => h) (fun h => h) hT (fun d hd => by cases hd; exact rfl)) ?_
    simp [frame134, Act.put, *]
  ·intro o ho x w' Z hZ hA hz hT hI K hK
   obtain rfl := Option.some.inj ho
   have e130 : x 130 = _ := hI 130 (by kernel_rfl)
   unfold wpOp
   simp only [ho]
   rw [if_pos (by rfl)]
   left
   rw [frame134]
   go_simp
   refine (HDC.out w' hA).mono ?_
   rintro e w9 ⟨v9, rfl, hg9, hp9, hk9⟩
   have ht9 := TyP.kp hT.2.2.1 hk9
   have hz9 : Z w9 := by rcases hZ with rfl | rfl <;> exact BoxP.kpx (show BoxP w' _ _ _ from hz) hk9
   refine metK (hK.out v9 w9 ⟨KQ.of_kp hk9, fun h => TyP.kp h hk9⟩ hp9 hz9 ⟨hT.1.kpx hk9, hT.2.1.kp hk9, ht9, HFG.out w' w9 hT.2.1 hT.2.2.1 hT.2.2.2 hk9⟩ (fun d hd => by cases hd; exact ⟨hg9.1, hg9.2, ht9⟩)) ?_
   simp [frame134, Act.put, *]
  ·intro o ho x w' Z hZ hS hz hT hI K hK
   obtain rfl := Option.some.inj ho
   have e8 : x 8 = _ := hI 8 (by kernel_rfl)
   have e129 : x 129 = _ := hI 129 (by kernel_rfl)
   have hS' : BoxP w' b8 0 (.slice none 0 0) := hS
   have d0 := hS'.c0
   have d1 := hS'.c1
   have z0 := hS'.fz 0
   have z1 := hS'.fz 1
   unfold wpOp
   simp only [ho]
   rw [if_pos (by rfl)]
   left
   rw [frame134]
   go_simp
   have hz9 : Z ((w'.setCell ⟨b8, 0, none⟩ (.int .i64 k)).setCell ⟨b8, 1, none⟩ (.slice a' L'.length cap')) := by rcases hZ with rfl | rfl <;> exact Pl.setP (show Pl _ _ w' _ _ _ from hz) hS'
   have hq9 : KQ B b8 w' ((w'.setCell ⟨b8, 0, none⟩ (.int .i64 k)).setCell ⟨b8, 1, none⟩ (.slice a' L'.length cap')) := ((KQ.refl B b8 w').set 0 _).set 1 _
   have ht9 : TyP ((w'.setCell ⟨b8, 0, none⟩ (.int .i64 k)).setCell ⟨b8, 1, none⟩ (.slice a' L'.length cap')) b8 := hS'.both.ty
   refine metK (hK.out undef _ ⟨hq9, fun _ => ht9⟩ hS'.both hz9 ⟨(hT.1.far hne15).far hne15, (hT.2.1.set 0 _).set 1 _, ht9, HFS.out w' _ hT.2.1 hT.2.2.1 hT.2.2.2 hq9⟩ (fun d hd => by cases hd)) ?_
   simp [frame134, Act.put, *]
  ·intro x w' hA hS hT hI
   have e0 : x 0 = _ := hI 0 (by decide)
   have e8 : x 8 = _ := hI 8 (by decide)
   have e9 : x 9 = _ := hI 9 (by decide)
   have e23 : x 23 = _ := hI 23 (by decide)
   have e24 : x 24 = _ := hI 24 (by decide)
   have e129 : x 129 = _ := hI 129 (by decide)
   have e130 : x 130 = _ := hI 130 (by decide)
   have e132 : x 132 = _ := hI 132 (by decide)
   have e133 : x 133 = _ := hI 133 (by decide)
   rw [frame134]
   simp only [e0, e8, e9, e23, e24, e129, e130, e132, e133]
   clear hI e0 e8 e9 e23 e24 e129 e130 e132 e133
   have HA := hide hA
   have HSS := hide (show BoxP w' b8 k (.slice a' L'.length cap') from hS)
   have HTT := hide hT
   clear hA hS hT
   generalize x 131 = x131
   go_wp2
   refine bodyPost_ret (results_cell_slot (q := 9) rfl _ _ b8 0 [.int .i64 k, (.slice a' L'.length cap')] dp rfl (HSS.out.range) hp1 hp2 pSize) rfl ?_
   have hv := (HVA.out.ext HE12.out).kq ((HFA.out HFRW.out).ext HE12.out) HTT.out.2.1 ⟨_, _, HB82.out⟩
   refine ⟨(.slice a' L'.length cap'), rfl, dropN pl t, L', HKE.out, HA.out, hv.1, hv.2, ?_, HTT.out.2.1.out (HX1.out.trans HE12.out) hw8⟩
   rw [← HLL.out]
   exact (HBO.out.drop t).mono (Nat.le_succ M)
 have h12 : ac = 1 ∨ ac = 2 := by omega
 have hsay := rsay_any k (.slice a L.length cap) L pr ve true W (HS.out.ext HX.out) (by have := HBO.out.len; omega) hI (fun x hx => by have := HBO.out.words x hx; omega)
 have HSAY := hide hsay
 clear h0 h3 h4 h5 h6 hsay
 rcases h12 with rfl | rfl
 all_goals
  go_wp2_with fail
  refine HSAY.out.mono ?_
  rintro e W1 ⟨lv', rfl, L', hva, hfa, hne, heq, E1⟩
  have HFRW := hide (HFR.out.ext HX.out)
  obtain ⟨_, a', cap', rfl⟩ := hva.1.shape
  simp only [pVal]
  have HX1 := hide (HX.out.trans E1)
  have HB61 := hide (HB6A.out.ext E1)
  have HB81 := hide (HB8.out.ext E1)
  have HP1 := hide (H.out.ext HX1.out)
  have HVA := hide hva
  have HFA := hide hfa
  have HNE := hide hne
  have HEQ := hide heq
  clear hva hfa hne heq E1 a0 a1 a2 c0 c1
  have hx15 : Ext W1 (W1.alloc (.cells #[.int .i64 k, .slice a' L'.length cap'] 55)) := (Below.refl _ _).alloc (Nat.le_refl _) _
  have hb15 := heap_alloc_new W1 (.cells #[.int .i64 k, .slice a' L'.length cap'] 55)
  go_upto_region 9 with (fail)
  generalize W1.alloc (.cells #[.int .i64 k, .slice a' L'.length cap'] 55) = W2 at hx15 hb15 ⊢
  obtain ⟨b15, hb15e⟩ : ∃ b, W1.heap.size = b := ⟨_, rfl⟩
  rw [hb15e] at hb15 ⊢
  have hp2 := HP1.out.ext hx15
  have hb15 : BoxP W2 b15 k (.slice a' L'.length cap') := hb15
  have hb82 := HB81.out.ext hx15
  have hb62 := HB61.out.ext hx15
  have e0 := hb15.c0
  have e1 := hb15.c1
  have a1 := hb62.at1 HAP.out.1
  have a2 := hb62.at2 HAP.out.2
  have d0 := hb82.c0
  have d1 := hb82.c1
  have z0 := hb82.fz 0
  have z1 := hb82.fz 1
  have hack : ∀ X, Pl B N X p bm pl → Calls Tryz.prog 20 #[.pointer (some ⟨p, 0, none⟩), .int .i64 pr, .int .i64 ve] X fun e w' => e = .returned (.int .i64 (sayE pl pr ve)) ∧ Pl B (N + 1) w' p bm (if sayE pl pr ve = 0 then ackP pl pr ve else pl) ∧ KP B X w' := fun X hX => pl_ack hX pr ve hI (by omega) (HBO.out.ackb (by omega))
  have hse : sayE pl pr ve = sayR k L pr ve := by rw [← HKE.out]; exact sayR_eq HBO.out.sim pr ve
  obtain ⟨er, her⟩ : ∃ er, sayR k L pr ve = er := ⟨_, rfl⟩
  have HNE := hide (fun (h : er ≠ 0) => HNE.out (by rw [her]; exact h))
  have HEQ := hide (fun (h : er = 0) => HEQ.out (her.trans h))
  rw [her] at hse ⊢
  rw [hse] at hack
  have HACK := hide hack
  have HSE := hide hse
  have HE12 := hide hx15
  have HP2 := hide hp2
  have HB82 := hide hb82
  have HB62 := hide hb62
  have HB152 := hide hb15
  clear hack hse hp2 hb82 hb62 hb15 hx15 her e0 e1 a1 a2 d0 d1 z0 z1
  have hne15 : b15 ≠ b8 := by have := HB81.out.lt; omega
  have hne6 : b6 ≠ b8 := by omega
  have h0A : Pl B N W2.drew p bm pl := HP2.out.ext ((Below.refl _ _).drew)
  have h0S : BoxP W2.drew b8 0 (.slice none 0 0) := HB82.out.ext ((Below.refl _ _).drew)
  have h0T : BoxP W2.drew b15 k (.slice a' L'.length cap') ∧ BoxA W2.drew b6 Ab ∧ KQ B b8 W2 W2.drew := ⟨HB152.out.ext ((Below.refl _ _).drew), HB62.out.ext ((Below.refl _ _).drew), KQ.of_ext ((Below.refl _ _).drew)⟩
  refine wp_region_two 134 6 9 (fun (t : Nat) (v : Value) => match t with | 0 => v = (.pointer (some ⟨p, 0, none⟩)) | 6 => v = (.pointer (some ⟨b6, 0, none⟩)) | 8 => v = (.pointer (some ⟨b8, 0, none⟩)) | 9 => v = (.bool true) | 15 => v = (.pointer (some ⟨b15, 0, none⟩)) | 16 => v = (.int .i64 er) | 63 => v = (.agg #[.int .i64 k, (.slice a' L'.length cap')]) | 64 => v = (.pointer (some ⟨p, 0, none⟩)) | 65 => v = (.pointer (some ⟨b6, 1, none⟩)) | 66 => v = (.int .i64 pr) | 67 => v = (.pointer (some ⟨b6, 2, none⟩)) | 68 => v = (.int .i64 ve) | 69 => v = (.int .i64 er) | 70 => v = (.int .i64 er) | 71 => v = (.bool true) | _ => True) (fun w' => Pl B N w' p bm pl) (fun w' => Pl B (N + 1) w' p bm (if er = 0 then ackP pl pr ve else pl)) (fun w' => BoxP w' b8 0 (.slice none 0 0)) (fun w' => BoxP w' b8 k (.slice a' L'.length cap')) (fun w' => BoxP w' b15 k (.slice a' L'.length cap') ∧ BoxA w' b6 Ab ∧ KQ B b8 W2 w') (by kernel_rfl) rfl (by kernel_rfl) (by kernel_rfl) (by decide) (by decide) (by decide) ?_ ?_ ?_ ?_ ?_ ?_ ?_ ?_
  ·exact h0A
  ·exact h0S
  ·exact h0T
  ·intro t ht hno
   split <;> first | exact True.intro | exact rfl | exact absurd (hno.symm.trans (by kernel_rfl) : true = false) (by decide)
  ·intro i o ho hic his x w' hT hI K hK
   have hin : i < 11 := (Array.getElem?_eq_some_iff.1 ho).1
   have hi : i = 0 ∨ i = 1 ∨ i = 2 ∨ i = 3 ∨ i = 4 ∨ i = 5 ∨ i = 6 ∨ i = 7 ∨ i = 8 ∨ i = 9 ∨ i = 10 := by omega
   rcases hi with rfl | rfl | rfl | rfl | rfl | rfl | rfl | rfl | rfl | rfl | rfl
   ·obtain rfl := Option.some.inj ho
    have e15 : x 15 = _ := hI 15 (by kernel_rfl)
    have c0 := hT.1.c0
    have c1 := hT.1.c1
    unfold wpOp
    simp only [ho]
    rw [if_pos (by rfl)]
    left
    rw [frame134]
    go_simp
    refine metK (hK.out ((.agg #[.int .i64 k, (.slice a' L'.length cap')])) (fun d hd => by cases hd; exact rfl)) ?_
    simp [frame134, Act.put, *]
   ·obtain rfl := Option.some.inj ho
    have e0 : x 0 = _ := hI 0 (by kernel_rfl)
    unfold wpOp
    simp only [ho]
    rw [if_pos (by rfl)]
    left
    rw [frame134]
    go_simp
    refine metK (hK.out ((.pointer (some ⟨p, 0, none⟩))) (fun d hd => by cases hd; exact rfl)) ?_
    simp [frame134, Act.put, *]
   ·obtain rfl := Option.some.inj ho
    have e6 : x 6 = _ := hI 6 (by kernel_rfl)
    unfold wpOp
    simp only [ho]
    rw [if_pos (by rfl)]
    left
    rw [frame134]
    go_simp
    refine metK (hK.out ((.pointer (some ⟨b6, 1, none⟩))) (fun d hd => by cases hd; exact rfl)) ?_
    simp [frame134, Act.put, *]
   ·obtain rfl := Option.some.inj ho
    have e65 : x 65 = _ := hI 65 (by kernel_rfl)
    have a1 := hT.2.1.at1 HAP.out.1
    unfold wpOp
    simp only [ho]
    rw [if_pos (by rfl)]
    left
    rw [frame134]
    go_simp
    refine metK (hK.out ((.int .i64 pr)) (fun d hd => by cases hd; exact rfl)) ?_
    simp [frame134, Act.put, *]
   ·obtain rfl := Option.some.inj ho
    have e6 : x 6 = _ := hI 6 (by kernel_rfl)
    unfold wpOp
    simp only [ho]
    rw [if_pos (by rfl)]
    left
    rw [frame134]
    go_simp
    refine metK (hK.out ((.pointer (some ⟨b6, 2, none⟩))) (fun d hd => by cases hd; exact rfl)) ?_
    simp [frame134, Act.put, *]
   ·obtain rfl := Option.some.inj ho
    have e67 : x 67 = _ := hI 67 (by kernel_rfl)
    have a2 := hT.2.1.at2 HAP.out.2
    unfold wpOp
    simp only [ho]
    rw [if_pos (by rfl)]
    left
    rw [frame134]
    go_simp
    refine metK (hK.out ((.int .i64 ve)) (fun d hd => by cases hd; exact rfl)) ?_
    simp [frame134, Act.put, *]
   ·first | exact absurd rfl hic | exact absurd rfl his
   ·obtain rfl := Option.some.inj ho
    have e16 : x 16 = _ := hI 16 (by kernel_rfl)
    unfold wpOp
    simp only [ho]
    rw [if_pos (by rfl)]
    left
    rw [frame134]
    go_simp
    refine metK (hK.out ((.int .i64 er)) (fun d hd => by cases hd; exact rfl)) ?_
    simp [frame134, Act.put, *]
   ·obtain rfl := Option.some.inj ho
    have e69 : x 69 = _ := hI 69 (by kernel_rfl)
    have e70 : x 70 = _ := hI 70 (by kernel_rfl)
    unfold wpOp
    simp only [ho]
    rw [if_pos (by rfl)]
    left
    rw [frame134]
    go_simp
    refine metK (hK.out ((.bool true)) (fun d hd => by cases hd; exact rfl)) ?_
    simp [frame134, Act.put, *]
   ·first | exact absurd rfl hic | exact absurd rfl his
   ·obtain rfl := Option.some.inj ho
    have e71 : x 71 = _ := hI 71 (by kernel_rfl)
    unfold wpOp
    simp only [ho]
    rw [if_pos (by rfl)]
    left
    rw [frame134]
    go_simp
    refine metK (hK.out ((.bool true)) (fun d hd => by cases hd; exact rfl)) ?_
    simp [frame134, Act.put, *]
  ·intro o ho x w' Z hZ hA hz hT hI K hK
   obtain rfl := Option.some.inj ho
   have e64 : x 64 = _ := hI 64 (by kernel_rfl)
   have e66 : x 66 = _ := hI 66 (by kernel_rfl)
   have e68 : x 68 = _ := hI 68 (by kernel_rfl)
   unfold wpOp
   simp only [ho]
   rw [if_pos (by rfl)]
   left
   rw [frame134]
   go_simp
   refine (HACK.out w' hA).mono ?_
   rintro e w9 ⟨rfl, hp9, hk9⟩
   have hz9 : Z w9 := by rcases hZ with rfl | rfl <;> exact BoxP.kpx (show BoxP w' _ _ _ from hz) hk9
   refine metK (hK.out (.int .i64 er) w9 hp9 hz9 ⟨hT.1.kpx hk9, hT.2.1.kpx hk9, hT.2.2.kp hk9⟩ (fun d hd => by cases hd; exact rfl)) ?_
   simp [frame134, Act.put, *]
  ·intro o ho x w' Z hZ hS hz hT hI K hK
   obtain rfl := Option.some.inj ho
   have e8 : x 8 = _ := hI 8 (by kernel_rfl)
   have e63 : x 63 = _ := hI 63 (by kernel_rfl)
   have hS' : BoxP w' b8 0 (.slice none 0 0) := hS
   have d0 := hS'.c0
   have d1 := hS'.c1
   have z0 := hS'.fz 0
   have z1 := hS'.fz 1
   unfold wpOp
   simp only [ho]
   rw [if_pos (by rfl)]
   left
   rw [frame134]
   go_simp
   have hz9 : Z ((w'.setCell ⟨b8, 0, none⟩ (.int .i64 k)).setCell ⟨b8, 1, none⟩ (.slice a' L'.length cap')) := by rcases hZ with rfl | rfl <;> exact Pl.setP (show Pl _ _ w' _ _ _ from hz) hS'
   refine metK (hK.out undef _ hS'.both hz9 ⟨(hT.1.far hne15).far hne15, (hT.2.1.farx hne6).farx hne6, (hT.2.2.set 0 _).set 1 _⟩ (fun d hd => by cases hd)) ?_
   simp [frame134, Act.put, *]
  ·intro x w' hA hS hT hI
   have e0 : x 0 = _ := hI 0 (by decide)
   have e6 : x 6 = _ := hI 6 (by decide)
   have e8 : x 8 = _ := hI 8 (by decide)
   have e9 : x 9 = _ := hI 9 (by decide)
   have e15 : x 15 = _ := hI 15 (by decide)
   have e16 : x 16 = _ := hI 16 (by decide)
   have e63 : x 63 = _ := hI 63 (by decide)
   have e64 : x 64 = _ := hI 64 (by decide)
   have e65 : x 65 = _ := hI 65 (by decide)
   have e66 : x 66 = _ := hI 66 (by decide)
   have e67 : x 67 = _ := hI 67 (by decide)
   have e68 : x 68 = _ := hI 68 (by decide)
   have e69 : x 69 = _ := hI 69 (by decide)
   have e70 : x 70 = _ := hI 70 (by decide)
   have e71 : x 71 = _ := hI 71 (by decide)
   rw [frame134]
   simp only [e0, e6, e8, e9, e15, e16, e63, e64, e65, e66, e67, e68, e69, e70, e71]
   clear hI e0 e6 e8 e9 e15 e16 e63 e64 e65 e66 e67 e68 e69 e70 e71
   have HA := hide hA
   have HSS := hide (show BoxP w' b8 k (.slice a' L'.length cap') from hS)
   have HTT := hide hT
   clear hA hS hT
   go_wp2
   refine bodyPost_ret (results_cell_slot (q := 9) rfl _ _ b8 0 [.int .i64 k, (.slice a' L'.length cap')] dp rfl (HSS.out.range) hp1 hp2 pSize) rfl ?_
   have hv := (HVA.out.ext HE12.out).kq ((HFA.out HFRW.out).ext HE12.out) HTT.out.2.2 ⟨_, _, HB82.out⟩
   refine ⟨(.slice a' L'.length cap'), rfl, (if er = 0 then ackP pl pr ve else pl), L', ?_, HA.out, hv.1, hv.2, ?_, HTT.out.2.2.out (HX1.out.trans HE12.out) hw8⟩
   ·split <;> exact HKE.out
   ·by_cases he : er = 0
    ·rw [if_pos he]
     obtain ⟨u, hu⟩ := HEQ.out he
     have hs := HSE.out.trans he
     obtain ⟨m, hm, hme, -, -⟩ := sayR_zero HBO.out.sim hs
     rw [hu]
     exact HBO.out.say (by omega) true pr u (HBO.out.sim.ack pr ve hs u)
    ·rw [if_neg he, HNE.out he]
     exact HBO.out.mono (Nat.le_succ M)
end Go.Proofs.YtkhebanpplokdaaGreatDoor
