/- Merged texts (RpA, RpB). -/
import Derived.Test.YtkhebanpplokdaaGreatDoorPnR
import Derived.Test.YtkhebanpplokdaaGreatDoorZy
namespace Go.Proofs.YtkhebanpplokdaaGreatDoor
open Go.ChangeShapes Go.WideShapes Go.ChangeAt Go.RowKit Go.Lib Go.Shelf Go.Maps
/-- a version, as the document has it -/
structure VerD where
 hv : Value
 H : List Int
 rv : Value
 R : List Int
 pins : Int
 gone : Bool
def encW (v : VerD) : List Value := [v.hv, v.rv, .int .i64 v.pins, .bool v.gone]
theorem encW_len (v : VerD) : (encW v).length = 4 := rfl
def VerD.val (v : VerD) : Value := .agg #[v.hv, v.rv, .int .i64 v.pins, .bool v.gone]
def ver0 : VerD := ⟨.slice none 0 0, [], .slice none 0 0, [], 0, false⟩
def VerOk (w : World) (v : VerD) : Prop := Ints w v.hv v.H ∧ Ints w v.rv v.R
theorem VerOk.ext {w w' : World} {v : VerD} (h : VerOk w v) (e : Ext w w') : VerOk w' v := ⟨h.1.ext e, h.2.ext e⟩
/-- a plane's versions read -/
def VersAt (w : World) (lv : Value) (L : List VerD) : Prop := Sl encW 4 w lv L ∧ ∀ v ∈ L, VerOk w v
theorem VersAt.ext {w w' : World} {lv : Value} {L : List VerD} (h : VersAt w lv L) (e : Ext w w') : VersAt w' lv L := ⟨h.1.ext e, fun v hv => (h.2 v hv).ext e⟩
/-- a slice in a block that no plane's method writes -/
def Far (w : World) (v : Value) : Prop := ∀ b off n c, v = .slice (some ⟨b, off, none⟩) n c → ∃ cs t f, w.heap[b]? = some (.cells cs t f) ∧ t ≠ 115 ∧ t ≠ 117 ∧ t ≠ 55
theorem Far.of_own {w : World} {base size n : Nat} {e : TypeId} {v : Value} {xs : List Value} (h : w.ownsRow base e size v n xs) (h1 : e ≠ 115) (h2 : e ≠ 117) (h3 : e ≠ 55) : Far w v := fun b off n' c hv => by
 obtain ⟨cs, fz, hc⟩ := ownsRow_kind h b (by rw [hv]; rfl)
 exact ⟨cs, e, _, hc, h1, h2, h3⟩
theorem Far.ext {w w' : World} {v : Value} (h : Far w v) (e : Ext w w') : Far w' v := fun b off n c hv => by
 obtain ⟨cs, t, f, h1, h2⟩ := h b off n c hv
 exact ⟨cs, t, f, (e.block b (Array.getElem?_eq_some_iff.1 h1).1).trans h1, h2⟩
theorem Far.kp {B : Nat} {w w' : World} {v : Value} (h : Far w v) (k : KP B w w') {b off n c : Nat} (hv : v = .slice (some ⟨b, off, none⟩) n c) : w'.heap[b]? = w.heap[b]? := by
 obtain ⟨cs, t, f, h1, h2, h3, -⟩ := h b off n c hv
 exact k.block b (Array.getElem?_eq_some_iff.1 h1).1 (fun hx => by rcases hx.2 _ _ _ h1 with e | e <;> contradiction)
theorem Far.keep {B : Nat} {w w' : World} {v : Value} (h : Far w v) (k : KP B w w') : Far w' v := fun b off n c hv => by
 obtain ⟨cs, t, f, h1, h2⟩ := h b off n c hv
 exact ⟨cs, t, f, (h.kp k hv).trans h1, h2⟩
theorem Far.nil (w : World) : Far w (.slice none 0 0) := fun b off n c hv => by cases hv
theorem sl_far {α : Type} {enc : α → List Value} {size B : Nat} {w w' : World} {v : Value} {xs : List α} (h : Sl enc size w v xs) (hf : Far w v) (k : KP B w w') : Sl enc size w' v xs := by
 obtain ⟨h1, a, cap, hv, h2, hc⟩ := h
 refine ⟨h1, a, cap, hv, h2, fun i x hi => ?_⟩
 obtain ⟨b, off, ha, hb, hcc⟩ := hc i x hi
 have hbl := hf.kp k (b := b) (off := off) (by rw [hv, ha])
 exact ⟨b, off, ha, Nat.lt_of_lt_of_le hb k.size, fun j u hu => (World.cell?_of_block (w := w) (a := ⟨b, off + i * size + j, none⟩) hbl).trans (hcc j u hu)⟩
/-- only what a plane's methods write, and one box, was turned -/
def KQ (B b : Nat) (w w' : World) : Prop := Keeps (fun q => PX B w q ∨ q = b) w w'
theorem KQ.refl (B b : Nat) (w : World) : KQ B b w w := Keeps.refl _ _
theorem KQ.of_ext {B b : Nat} {w w' : World} (e : Ext w w') : KQ B b w w' := Keeps.of_ext e
theorem KQ.kp {B b : Nat} {w a c : World} (h : KQ B b w a) (k : KP B a c) : KQ B b w c := by
 refine ⟨k.os.trans h.os, k.tape.trans h.tape, k.output.trans h.output, Nat.le_trans h.size k.size, fun i hi hx => ?_⟩
 have h1 := h.block i hi hx
 exact (k.block i (Nat.lt_of_lt_of_le hi h.size) (fun hb => hx (.inl ⟨hb.1, fun cs t f e => hb.2 cs t f (h1.trans e)⟩))).trans h1
theorem KQ.set {B b : Nat} {w a : World} (h : KQ B b w a) (j : Nat) (u : Value) : KQ B b w (a.setCell ⟨b, j, none⟩ u) := h.trans (Keeps.of_set (X := fun q => PX B w q ∨ q = b) a b j u (.inr rfl))
theorem Far.kq {B q : Nat} {w w' : World} {v : Value} (h : Far w v) (k : KQ B q w w') (hq : ∃ cs f, w.heap[q]? = some (.cells cs 55 f)) {b off n c : Nat} (hv : v = .slice (some ⟨b, off, none⟩) n c) : w'.heap[b]? = w.heap[b]? := by
 obtain ⟨cs, t, f, h1, h2, h3, h4⟩ := h b off n c hv
 refine k.block b (Array.getElem?_eq_some_iff.1 h1).1 (fun hx => ?_)
 rcases hx with hx | rfl
 ·rcases hx.2 _ _ _ h1 with e | e <;> contradiction
 ·obtain ⟨cs', f', h5⟩ := hq
  rw [h1] at h5
  cases h5
  exact h4 rfl
theorem Far.keepq {B q : Nat} {w w' : World} {v : Value} (h : Far w v) (k : KQ B q w w') (hq : ∃ cs f, w.heap[q]? = some (.cells cs 55 f)) : Far w' v := fun b off n c hv => by
 obtain ⟨cs, t, f, h1, h2⟩ := h b off n c hv
 exact ⟨cs, t, f, (h.kq k hq hv).trans h1, h2⟩
theorem sl_farq {α : Type} {enc : α → List Value} {size B q : Nat} {w w' : World} {v : Value} {xs : List α} (h : Sl enc size w v xs) (hf : Far w v) (k : KQ B q w w') (hq : ∃ cs f, w.heap[q]? = some (.cells cs 55 f)) : Sl enc size w' v xs := by
 obtain ⟨h1, a, cap, hv, h2, hc⟩ := h
 refine ⟨h1, a, cap, hv, h2, fun i x hi => ?_⟩
 obtain ⟨b, off, ha, hb, hcc⟩ := hc i x hi
 have hbl := hf.kq k hq (b := b) (off := off) (by rw [hv, ha])
 exact ⟨b, off, ha, Nat.lt_of_lt_of_le hb k.size, fun j u hu => (World.cell?_of_block (w := w) (a := ⟨b, off + i * size + j, none⟩) hbl).trans (hcc j u hu)⟩
def FarL (w : World) (lv : Value) (L : List VerD) : Prop := Far w lv ∧ ∀ v ∈ L, Far w v.hv ∧ Far w v.rv
theorem FarL.ext {w w' : World} {lv : Value} {L : List VerD} (h : FarL w lv L) (e : Ext w w') : FarL w' lv L := ⟨h.1.ext e, fun v hv => ⟨(h.2 v hv).1.ext e, (h.2 v hv).2.ext e⟩⟩
theorem VersAt.kp {B : Nat} {w w' : World} {lv : Value} {L : List VerD} (h : VersAt w lv L) (hf : FarL w lv L) (k : KP B w w') : VersAt w' lv L ∧ FarL w' lv L :=
 ⟨⟨sl_far h.1 hf.1 k, fun v hv => ⟨sl_far (h.2 v hv).1 (hf.2 v hv).1 k, sl_far (h.2 v hv).2 (hf.2 v hv).2 k⟩⟩, hf.1.keep k, fun v hv => ⟨(hf.2 v hv).1.keep k, (hf.2 v hv).2.keep k⟩⟩
theorem VersAt.kq {B q : Nat} {w w' : World} {lv : Value} {L : List VerD} (h : VersAt w lv L) (hf : FarL w lv L) (k : KQ B q w w') (hq : ∃ cs f, w.heap[q]? = some (.cells cs 55 f)) : VersAt w' lv L ∧ FarL w' lv L :=
 ⟨⟨sl_farq h.1 hf.1 k hq, fun v hv => ⟨sl_farq (h.2 v hv).1 (hf.2 v hv).1 k hq, sl_farq (h.2 v hv).2 (hf.2 v hv).2 k hq⟩⟩, hf.1.keepq k hq, fun v hv => ⟨(hf.2 v hv).1.keepq k hq, (hf.2 v hv).2.keepq k hq⟩⟩
theorem getD_mem {L : List VerD} {i : Nat} (hi : i < L.length) : L.getD i ver0 ∈ L := by
 rw [List.getD_eq_getElem?_getD, List.getElem?_eq_getElem hi]
 exact List.getElem_mem hi
def pVal (k : Int) (lv : Value) : Value := .agg #[.int .i64 k, lv]
theorem vers_at {w : World} {a : Option Addr} {n cap : Nat} {xs : List VerD} (h : Sl encW 4 w (.slice a n cap) xs) (i : Nat) (hi : i < xs.length) :
  ∃ b off, a = some ⟨b, off, none⟩ ∧ b < w.heap.size ∧ w.cell? ⟨b, off + i * 4, none⟩ = some xs[i].hv ∧ w.cell? ⟨b, off + i * 4 + 1, none⟩ = some xs[i].rv ∧ w.cell? ⟨b, off + i * 4 + 2, none⟩ = some (.int .i64 xs[i].pins) ∧ w.cell? ⟨b, off + i * 4 + 3, none⟩ = some (.bool xs[i].gone) := by
 obtain ⟨_, a', cap', hv, _, hc⟩ := h
 cases hv
 obtain ⟨b, off, ha, hb, hc⟩ := hc i xs[i] (List.getElem?_eq_getElem hi)
 exact ⟨b, off, ha, hb, by simpa using hc 0 _ rfl, by simpa using hc 1 _ rfl, by simpa using hc 2 _ rfl, by simpa using hc 3 _ rfl⟩
/-- both planes tell the same -/
structure Sim (pl : PlD) (L : List VerD) : Prop where
 len : pl.V.length = L.length
 acks : ∀ (i : Nat) (hi : i < L.length), (madeAt pl i).acks = (L[i].H.length : Int)
 pins : ∀ (i : Nat) (hi : i < L.length), (madeAt pl i).pins = L[i].pins
 gone : ∀ (i : Nat) (hi : i < L.length), (madeAt pl i).b.isSome = !L[i].gone
 said : ∀ (i : Nat) (hi : i < L.length) (pr : Int), pl.said (pr, (i : Int) + 1) = if L[i].H.contains pr = true then 1 else if L[i].R.contains pr = true then 2 else 0
 out : ∀ pr v : Int, (v : Int) > L.length → pl.said (pr, v) = 0
/-- the live version of the first t -/
def liveT (k : Int) (L : List VerD) : Nat → Nat
 | 0 => 0
 | t + 1 => if (((L[t]?).map fun v => (v.H.length : Int)).getD 0) = k then t + 1 else liveT k L t
theorem liveT_sim {pl : PlD} {L : List VerD} (h : Sim pl L) : ∀ t, t ≤ L.length → liveT pl.k L t = gtN (ackAt pl) t
 | 0, _ => rfl
 | t + 1, ht => by
  have e : ackAt pl (t + 1) = decide ((((L[t]?).map fun v => (v.H.length : Int)).getD 0) = pl.k) := by
   rw [ackAt_made, Nat.add_sub_cancel, h.acks t (by omega), List.getElem?_eq_getElem (by omega)]
   rfl
  unfold liveT
  rw [gtN, e, liveT_sim h t (by omega)]
  simp only [decide_eq_true_eq]
theorem liveT_live {pl : PlD} {L : List VerD} (h : Sim pl L) : liveT pl.k L L.length = liveN pl := by
 rw [liveT_sim h _ (Nat.le_refl _)]
 unfold liveN
 rw [h.len]
set_option maxRecDepth 100000 in
set_option maxHeartbeats 8000000 in
theorem rlive_any (k : Int) (lv : Value) (L : List VerD) (w : World) (hs : VersAt w lv L) :
  Calls Tryz.prog 97 #[pVal k lv] w fun e w' => e = .returned (.int .i64 (liveT k L L.length : Nat)) ∧ Ext w w' := by
 obtain ⟨hl63, a, cap, rfl⟩ := hs.1.shape
 have hx : Ext w (w.alloc (.cells #[.int .i64 k, .slice a L.length cap] 55)) := (Below.refl _ _).alloc (Nat.le_refl _) _
 have hb := heap_alloc_new w (.cells #[.int .i64 k, .slice a L.length cap] 55)
 have HS := hide (hs.ext hx)
 clear hs
 show Calls Tryz.prog 97 #[.agg #[.int .i64 k, .slice a L.length cap]] w _
 go_enter Tryz.func97, Tryz.ntmps97
 go_upto_region 1 with (fail)
 generalize w.alloc (.cells #[.int .i64 k, .slice a L.length cap] 55) = W at hx hb HS ⊢
 obtain ⟨bx, hbe⟩ : ∃ b, w.heap.size = b := ⟨_, rfl⟩
 rw [hbe] at hb ⊢
 have e0 : W.cell? ⟨bx, 0, none⟩ = some (.int .i64 k) := by simp only [World.cell?, hb]; rfl
 have e1 : W.cell? ⟨bx, 1, none⟩ = some (.slice a L.length cap) := by simp only [World.cell?, hb]; rfl
 have HC0 := hide (show ∀ X, Ext W X → X.cell? ⟨bx, 0, none⟩ = some (.int .i64 k) from fun X hX => (hX.cell (p := ⟨bx, 0, none⟩) (World.block_lt_of_cell? W _ e0)).trans e0)
 have HC1 := hide (show ∀ X, Ext W X → X.cell? ⟨bx, 1, none⟩ = some (.slice a L.length cap) from fun X hX => (hX.cell (p := ⟨bx, 1, none⟩) (World.block_lt_of_cell? W _ e1)).trans e1)
 have HX := hide hx
 clear hx hb hbe e0
 go_wp2_with fail
 clear e1
 go_loopw [3, 4] (fun v3 v4 wr => ∃ t : Nat, t ≤ L.length ∧ v4 = .int .i64 t ∧ v3 = .int .i64 (liveT k L t : Nat) ∧ Hid (Ext W wr)) (fun _ i _ => L.length - (intOf i).toNat)
 case atStart => exact ⟨0, Nat.zero_le _, rfl, rfl, Below.refl _ _⟩
 case round =>
  obtain ⟨t, ht, rfl, rfl, hxx⟩ := hrel
  have HY := hide hxx.out
  clear hxx
  generalize wr = wo at *
  have f0 := HC0.out _ HY.out
  have f1 := HC1.out _ HY.out
  by_cases hlt : t < L.length
  ·have htz : (t : Int) < L.length := by omega
   have ht0 : (0 : Int) ≤ t := by omega
   have hwt : IntKind.i64.wrap ((t : Int) + 1) = ((t + 1 : Nat) : Int) := by rw [IntKind.wrap_i64]; omega
   obtain ⟨b, off, rfl, hbb, c0, -, -, -⟩ := vers_at (HS.out.ext HY.out).1 t hlt
   have hvo := ((HS.out.ext HY.out).2 _ (List.getElem_mem hlt)).1
   have hst : liveT k L (t + 1) = if (L[t].H.length : Int) = k then t + 1 else liveT k L t := by
    rw [liveT, List.getElem?_eq_getElem hlt]
    rfl
   obtain ⟨hl, ah, ch, hvh⟩ := hvo.shape
   rw [hvh] at c0
   obtain ⟨n, hn⟩ : ∃ n, L[t].H.length = n := ⟨_, rfl⟩
   rw [hn] at c0 hst
   have HST := hide hst
   have HWT := hide hwt
   clear hvo hvh hn hl hst hwt
   by_cases e : (n : Int) = k
   ·have e1 : ((n : Int) == k) = true := by simpa using e
    have hst := HST.out
    rw [if_pos e] at hst
    have HS2 := hide hst
    clear e hst HST
    go_upto_region 5 with (fail)
    go_quiet (fail)
    have hwt := HWT.out
    clear c0 f0 f1
    go_wp2
    go_roundw
    case rel => exact ⟨t + 1, by omega, by go_num, by rw [HS2.out] <;> first | rfl | go_num, Below.drewN' HY.out _⟩
    case measure => (simp [intOf]) <;> omega
   ·have e1 : ((n : Int) == k) = false := by simpa using e
    have hst := HST.out
    rw [if_neg e] at hst
    have HS2 := hide hst
    clear e hst HST
    go_upto_region 5 with (fail)
    go_quiet (fail)
    have hwt := HWT.out
    clear c0 f0 f1
    go_wp2
    go_roundw
    case rel => exact ⟨t + 1, by omega, by go_num, by rw [HS2.out] <;> first | rfl | go_num, Below.drewN' HY.out _⟩
    case measure => (simp [intOf]) <;> omega
  ·obtain rfl : t = L.length := by omega
   clear hlt
   go_wp2
   go_ret
   exact ⟨rfl, HX.out.trans HY.out⟩
end Go.Proofs.YtkhebanpplokdaaGreatDoor
namespace Go.Proofs.YtkhebanpplokdaaGreatDoor
open Go.ChangeShapes Go.WideShapes Go.ChangeAt Go.RowKit Go.Lib Go.Shelf Go.Maps
theorem infoW' : (Tryz.prog.info? 173).map (fun i => (i.zero, i.size, i.bytes)) = some (some (.agg #[.slice none 0 0, .slice none 0 0, .int .i64 0, .bool false]), 4, 64) := by kernel_rfl
theorem VerOk.one {w : World} {v : VerD} (h : VerOk w v) : ∀ u ∈ encW v, u.oneCell' = true := by
 obtain ⟨-, a, c, h1⟩ := h.1.shape
 obtain ⟨-, b, d, h2⟩ := h.2.shape
 intro u hu
 simp only [encW, List.mem_cons, List.not_mem_nil, or_false] at hu
 rcases hu with rfl | rfl | rfl | rfl
 ·rw [h1]; rfl
 ·rw [h2]; rfl
 ·rfl
 ·rfl
theorem ver_store {base n c g : Nat} {e : TypeId} {w : World} {L : List VerD} (h : w.ownsRow base e 4 (.slice (some ⟨g, 0, none⟩) n c) n (L.flatMap encW)) (i : Nat) (hi : i < L.length) (v : VerD) :
  ((((w.setCell ⟨g, i * 4, none⟩ v.hv).setCell ⟨g, i * 4 + 1, none⟩ v.rv).setCell ⟨g, i * 4 + 2, none⟩ (.int .i64 v.pins)).setCell ⟨g, i * 4 + 3, none⟩ (.bool v.gone)).ownsRow base e 4 (.slice (some ⟨g, 0, none⟩) n c) n ((L.set i v).flatMap encW) := by
 obtain ⟨x, hx⟩ : ∃ x, L[i] = x := ⟨_, rfl⟩
 have s1 := owns_set1 encW_len h i 0 hi (by decide) v.hv ⟨v.hv, v.H, x.rv, x.R, x.pins, x.gone⟩ (by rw [hx]; rfl)
 have s2 := owns_set1 encW_len s1 i 1 (by simpa using hi) (by decide) v.rv ⟨v.hv, v.H, v.rv, v.R, x.pins, x.gone⟩ (by simp; rfl)
 have s3 := owns_set1 encW_len s2 i 2 (by simpa using hi) (by decide) (.int .i64 v.pins) ⟨v.hv, v.H, v.rv, v.R, v.pins, x.gone⟩ (by simp; rfl)
 have s4 := owns_set1 encW_len s3 i 3 (by simpa using hi) (by decide) (.bool v.gone) v (by simp; rfl)
 simp only [List.set_set] at s4
 exact s4
set_option maxRecDepth 100000 in
set_option maxHeartbeats 8000000 in
theorem with_any (lv : Value) (L : List VerD) (at_ : Nat) (hat : at_ < L.length) (v : VerD) (w : World) (hs : VersAt w lv L) (hv : VerOk w v) (h50 : L.length ≤ 50) :
  Calls Tryz.prog 96 #[lv, .int .i64 at_, v.val] w fun e w' => ∃ lv', e = .returned lv' ∧ w'.ownsRow w.heap.size 173 4 lv' L.length ((L.set at_ v).flatMap encW) ∧ Ext w w' := by
 obtain ⟨iw, hi, hz0, hz1, hz2⟩ := info_z' infoW'
 obtain ⟨hl63, a, cap, rfl⟩ := hs.1.shape
 have hone : ∀ x ∈ L, ∀ u ∈ encW x, u.oneCell' = true := fun x hx => (hs.2 x hx).one
 have HVO := hide hv
 have HS0 := hide hs
 obtain ⟨vh, vH, vr, vR, vp, vg⟩ := v
 obtain ⟨_, ah, ch, h1⟩ := hv.1.shape
 obtain ⟨_, ar, cr, h2⟩ := hv.2.shape
 simp only [] at h1 h2
 subst h1 h2
 have hx : Ext w (w.alloc (.cells #[.slice ah vH.length ch, .slice ar vR.length cr, .int .i64 vp, .bool vg] 173)) := (Below.refl _ _).alloc (Nat.le_refl _) _
 have hb := heap_alloc_new w (.cells #[.slice ah vH.length ch, .slice ar vR.length cr, .int .i64 vp, .bool vg] 173)
 have HS := hide (hs.ext hx)
 have HO := hide hone
 clear hs hv hone
 show Calls Tryz.prog 96 #[.slice a L.length cap, .int .i64 at_, .agg #[.slice ah vH.length ch, .slice ar vR.length cr, .int .i64 vp, .bool vg]] w _
 go_enter Tryz.func96, Tryz.ntmps96
 go_upto_region 2 with (fail)
 generalize w.alloc (.cells #[.slice ah vH.length ch, .slice ar vR.length cr, .int .i64 vp, .bool vg] 173) = W at hx hb HS ⊢
 obtain ⟨bx, hbe⟩ : ∃ b, w.heap.size = b := ⟨_, rfl⟩
 have hwsz := hx.size
 rw [hbe] at hb ⊢
 have HX := hide hx
 have HB := hide hb
 have HBE := hide hbe
 clear hx hb hbe
 refine wp_region_lit ?_
 refine wpList_plain rfl fun K hK => ?_
 go_simp
 refine hK _ _ ?_
 refine wpList_plain rfl fun K hK => ?_
 go_simp
 refine hK _ _ ?_
 refine wpList_append_sl (enc := encW) rfl _ _ _ rfl w.heap.size 173 iw _ 4 64 Tryz.underlying53 hi hz0 hz1 hz2 rfl (by decide) encW_len (.slice none 0 0) 0 [] rfl (World.ownsRow_nil _ _ _ _) _ rfl L HS.out.1 HO.out (by unfold maxLen; omega) (by omega) hwsz ?_
 intro lv2 w2 hown hgrow
 rw [Nat.zero_add, List.nil_append] at hown
 have hxw : Ext w w2 := HX.out.grown hgrow (by omega) (fun k hk => by cases hk)
 obtain ⟨g, c2, hlv2, -⟩ := owns_form hown (by omega)
 subst hlv2
 have hX2 : Ext W w2 := (Below.refl _ W).grown hgrow (Nat.le_refl _) (fun k hk => by cases hk)
 have hb2 := (hX2.block bx (Array.getElem?_eq_some_iff.1 HB.out).1).trans HB.out
 have e0 : w2.cell? ⟨bx, 0, none⟩ = some (.slice ah vH.length ch) := by simp only [World.cell?, hb2]; rfl
 have e1 : w2.cell? ⟨bx, 1, none⟩ = some (.slice ar vR.length cr) := by simp only [World.cell?, hb2]; rfl
 have e2 : w2.cell? ⟨bx, 2, none⟩ = some (.int .i64 vp) := by simp only [World.cell?, hb2]; rfl
 have e3 : w2.cell? ⟨bx, 3, none⟩ = some (.bool vg) := by simp only [World.cell?, hb2]; rfl
 obtain ⟨d0, z0⟩ := cell_row encW_len hown at_ hat 0 _ rfl
 obtain ⟨d1, z1⟩ := cell_row encW_len hown at_ hat 1 _ rfl
 obtain ⟨d2, z2⟩ := cell_row encW_len hown at_ hat 2 _ rfl
 obtain ⟨d3, z3⟩ := cell_row encW_len hown at_ hat 3 _ rfl
 have d0' : w2.cell? ⟨g, at_ * 4, none⟩ = some L[at_].hv := d0
 have z0' : w2.frozen? ⟨g, at_ * 4, none⟩ = false := z0
 have hst := ver_store hown at_ hat ⟨.slice ah vH.length ch, vH, .slice ar vR.length cr, vR, vp, vg⟩
 have hgB := (hown.lt g rfl).1
 have HST := hide hst
 have HXW := hide hxw
 have hatz : (at_ : Int) < L.length := by omega
 have hat0 : (0 : Int) ≤ at_ := by omega
 clear hst hown hgrow hxw hX2 hb2 d0 z0 HS HB
 go_wp2
 go_ret
 have hk : Ext w ((((w2.setCell ⟨g, at_ * 4, none⟩ (.slice ah vH.length ch)).setCell ⟨g, at_ * 4 + 1, none⟩ (.slice ar vR.length cr)).setCell ⟨g, at_ * 4 + 2, none⟩ (.int .i64 vp)).setCell ⟨g, at_ * 4 + 3, none⟩ (.bool vg)) :=
  Keeps.ext HXW.out ((((Keeps.of_set (X := fun q => q = g) w2 g (at_ * 4) _ rfl).trans (Keeps.of_set (X := fun q => q = g) _ g (at_ * 4 + 1) _ rfl)).trans (Keeps.of_set (X := fun q => q = g) _ g (at_ * 4 + 2) _ rfl)).trans (Keeps.of_set (X := fun q => q = g) _ g (at_ * 4 + 3) _ rfl)) (fun q hq => by rw [hq]; exact hgB)
 exact ⟨_, rfl, HST.out, hk⟩
end Go.Proofs.YtkhebanpplokdaaGreatDoor
