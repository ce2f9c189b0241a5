/- Merged texts (PnC, PnD). -/
import Derived.Test.YtkhebanpplokdaaGreatDoorZpa
namespace Go.Proofs.YtkhebanpplokdaaGreatDoor
open Go.ChangeShapes Go.WideShapes Go.ChangeAt Go.RowKit Go.Lib Go.Shelf Go.Maps
set_option maxRecDepth 100000 in
set_option maxHeartbeats 4000000 in
theorem greatestLive {B : Nat} {w : World} {p bm : Nat} {vv : Value} {N : Nat} {pl : PlD} (h : PlaneIs B w p bm vv N pl) (bx : Nat) (P : Nat → Bool)
  (hask : ∀ (v : Nat) X, 1 ≤ v → v ≤ pl.V.length → Ext w X → Calls Tryz.prog 61 #[.int .i64 v, .pointer (some ⟨bx, 0, none⟩)] X fun e w' => e = .returned (.bool (P v)) ∧ Ext X w') :
  Calls Tryz.prog 56 #[.pointer (some ⟨p, 0, none⟩), .func (.func 61) #[] #[.pointer (some ⟨bx, 0, none⟩)]] w fun e w' => e = .returned (.int .i64 (gtN P pl.V.length : Nat)) ∧ Ext w w' := by
 have c1 := h.c1
 have h63 := owns_len h.row
 obtain ⟨a, c, hv⟩ := owns_shape h.row
 rw [hv] at c1
 generalize pl.V.length = n at c1 h63 hask ⊢
 have HASK := hide hask
 have H63 := hide h63
 clear h hv hask h63
 go_enter Tryz.func56, Tryz.ntmps56
 go_wp2_with fail
 clear c1
 go_loopw [5] (fun vr wr => ∃ r : Nat, r ≤ n ∧ vr = .int .i64 (r : Int) ∧ Hid (∀ v, r < v → v ≤ n → P v = false) ∧ Hid (Ext w wr)) (fun i _ => (intOf i).toNat)
 case atStart => exact ⟨n, Nat.le_refl _, rfl, fun v h1 h2 => by omega, Below.refl _ _⟩
 case round =>
  obtain ⟨r, hr, rfl, hno, hx⟩ := hrel
  generalize wr = wo at *
  have HNO := hide hno.out
  have HX := hide hx.out
  clear hno hx
  by_cases hr0 : 0 < r
  ·have hrz : (r : Int) > 0 := by omega
   have h63 := H63.out
   have HWR := hide (show IntKind.i64.wrap ((r : Int) - 1) = ((r - 1 : Nat) : Int) by rw [IntKind.wrap_i64]; omega)
   have hq := HASK.out r wo (by omega) hr HX.out
   obtain ⟨b, hb⟩ : ∃ b, P r = b := ⟨_, rfl⟩
   rw [hb] at hq
   have HQ := hide hq
   have HPB := hide hb
   clear hq hb h63
   cases b with
   | true =>
    go_wp2_with fail
    refine HQ.out.mono ?_
    rintro e w2 ⟨rfl, E2⟩
    have HE := hide (HX.out.trans E2)
    have hg : gtN P n = r := by
     obtain ⟨m, rfl⟩ : ∃ m, r = m + 1 := ⟨r - 1, by omega⟩
     exact gtN_at P n m hr HNO.out HPB.out
    have HG := hide hg
    clear E2 hg
    go_wp2
    go_ret
    exact ⟨by rw [HG.out]; rfl, HE.out⟩
   | false =>
    go_wp2_with fail
    refine HQ.out.mono ?_
    rintro e w2 ⟨rfl, E2⟩
    have HE := hide (HX.out.trans E2)
    have hwr := HWR.out
    have HN2 := hide (show ∀ v, r - 1 < v → v ≤ n → P v = false from fun v h1 h2 => by
     by_cases e : v = r
     ·rw [e]; exact HPB.out
     ·exact HNO.out v (by omega) h2)
    clear E2 HWR
    go_wp2
    go_roundw
    case rel => exact ⟨r - 1, by omega, by first | rfl | simp, HN2.out, HE.out⟩
    case measure => simp [intOf] <;> omega
  ·have hr00 : r = 0 := by omega
   have hg : gtN P n = 0 := by
    rw [gtN_down P n r hr HNO.out, hr00]
    rfl
   have HG := hide hg
   have hrn : ¬ (r : Int) > 0 := by omega
   have HR0 := hide hr00
   clear hg hr00
   go_wp2
   go_ret
   exact ⟨by rw [HG.out]; rfl, HX.out⟩
set_option maxRecDepth 100000 in
set_option maxHeartbeats 4000000 in
theorem greatestNext1 {B : Nat} {w : World} {p bm : Nat} {vv : Value} {N : Nat} {pl : PlD} (h : PlaneIs B w p bm vv N pl) (bx by_ : Nat) (P : Nat → Bool)
  (hask : ∀ (v : Nat) X, 1 ≤ v → v ≤ pl.V.length → Ext w X → Calls Tryz.prog 57 #[.int .i64 v, .pointer (some ⟨bx, 0, none⟩), .pointer (some ⟨by_, 0, none⟩)] X fun e w' => e = .returned (.bool (P v)) ∧ Ext X w') :
  Calls Tryz.prog 56 #[.pointer (some ⟨p, 0, none⟩), .func (.func 57) #[] #[.pointer (some ⟨bx, 0, none⟩), .pointer (some ⟨by_, 0, none⟩)]] w fun e w' => e = .returned (.int .i64 (gtN P pl.V.length : Nat)) ∧ Ext w w' := by
 have c1 := h.c1
 have h63 := owns_len h.row
 obtain ⟨a, c, hv⟩ := owns_shape h.row
 rw [hv] at c1
 generalize pl.V.length = n at c1 h63 hask ⊢
 have HASK := hide hask
 have H63 := hide h63
 clear h hv hask h63
 go_enter Tryz.func56, Tryz.ntmps56
 go_wp2_with fail
 clear c1
 go_loopw [5] (fun vr wr => ∃ r : Nat, r ≤ n ∧ vr = .int .i64 (r : Int) ∧ Hid (∀ v, r < v → v ≤ n → P v = false) ∧ Hid (Ext w wr)) (fun i _ => (intOf i).toNat)
 case atStart => exact ⟨n, Nat.le_refl _, rfl, fun v h1 h2 => by omega, Below.refl _ _⟩
 case round =>
  obtain ⟨r, hr, rfl, hno, hx⟩ := hrel
  generalize wr = wo at *
  have HNO := hide hno.out
  have HX := hide hx.out
  clear hno hx
  by_cases hr0 : 0 < r
  ·have hrz : (r : Int) > 0 := by omega
   have h63 := H63.out
   have HWR := hide (show IntKind.i64.wrap ((r : Int) - 1) = ((r - 1 : Nat) : Int) by rw [IntKind.wrap_i64]; omega)
   have hq := HASK.out r wo (by omega) hr HX.out
   obtain ⟨b, hb⟩ : ∃ b, P r = b := ⟨_, rfl⟩
   rw [hb] at hq
   have HQ := hide hq
   have HPB := hide hb
   clear hq hb h63
   cases b with
   | true =>
    go_wp2_with fail
    refine HQ.out.mono ?_
    rintro e w2 ⟨rfl, E2⟩
    have HE := hide (HX.out.trans E2)
    have hg : gtN P n = r := by
     obtain ⟨m, rfl⟩ : ∃ m, r = m + 1 := ⟨r - 1, by omega⟩
     exact gtN_at P n m hr HNO.out HPB.out
    have HG := hide hg
    clear E2 hg
    go_wp2
    go_ret
    exact ⟨by rw [HG.out]; rfl, HE.out⟩
   | false =>
    go_wp2_with fail
    refine HQ.out.mono ?_
    rintro e w2 ⟨rfl, E2⟩
    have HE := hide (HX.out.trans E2)
    have hwr := HWR.out
    have HN2 := hide (show ∀ v, r - 1 < v → v ≤ n → P v = false from fun v h1 h2 => by
     by_cases e : v = r
     ·rw [e]; exact HPB.out
     ·exact HNO.out v (by omega) h2)
    clear E2 HWR
    go_wp2
    go_roundw
    case rel => exact ⟨r - 1, by omega, by first | rfl | simp, HN2.out, HE.out⟩
    case measure => simp [intOf] <;> omega
  ·have hr00 : r = 0 := by omega
   have hg : gtN P n = 0 := by
    rw [gtN_down P n r hr HNO.out, hr00]
    rfl
   have HG := hide hg
   have hrn : ¬ (r : Int) > 0 := by omega
   have HR0 := hide hr00
   clear hg hr00
   go_wp2
   go_ret
   exact ⟨by rw [HG.out]; rfl, HX.out⟩
set_option maxRecDepth 100000 in
set_option maxHeartbeats 4000000 in
theorem greatestNext2 {B : Nat} {w : World} {p bm : Nat} {vv : Value} {N : Nat} {pl : PlD} (h : PlaneIs B w p bm vv N pl) (bx by_ : Nat) (P : Nat → Bool)
  (hask : ∀ (v : Nat) X, 1 ≤ v → v ≤ pl.V.length → Ext w X → Calls Tryz.prog 58 #[.int .i64 v, .pointer (some ⟨bx, 0, none⟩), .pointer (some ⟨by_, 0, none⟩)] X fun e w' => e = .returned (.bool (P v)) ∧ Ext X w') :
  Calls Tryz.prog 56 #[.pointer (some ⟨p, 0, none⟩), .func (.func 58) #[] #[.pointer (some ⟨bx, 0, none⟩), .pointer (some ⟨by_, 0, none⟩)]] w fun e w' => e = .returned (.int .i64 (gtN P pl.V.length : Nat)) ∧ Ext w w' := by
 have c1 := h.c1
 have h63 := owns_len h.row
 obtain ⟨a, c, hv⟩ := owns_shape h.row
 rw [hv] at c1
 generalize pl.V.length = n at c1 h63 hask ⊢
 have HASK := hide hask
 have H63 := hide h63
 clear h hv hask h63
 go_enter Tryz.func56, Tryz.ntmps56
 go_wp2_with fail
 clear c1
 go_loopw [5] (fun vr wr => ∃ r : Nat, r ≤ n ∧ vr = .int .i64 (r : Int) ∧ Hid (∀ v, r < v → v ≤ n → P v = false) ∧ Hid (Ext w wr)) (fun i _ => (intOf i).toNat)
 case atStart => exact ⟨n, Nat.le_refl _, rfl, fun v h1 h2 => by omega, Below.refl _ _⟩
 case round =>
  obtain ⟨r, hr, rfl, hno, hx⟩ := hrel
  generalize wr = wo at *
  have HNO := hide hno.out
  have HX := hide hx.out
  clear hno hx
  by_cases hr0 : 0 < r
  ·have hrz : (r : Int) > 0 := by omega
   have h63 := H63.out
   have HWR := hide (show IntKind.i64.wrap ((r : Int) - 1) = ((r - 1 : Nat) : Int) by rw [IntKind.wrap_i64]; omega)
   have hq := HASK.out r wo (by omega) hr HX.out
   obtain ⟨b, hb⟩ : ∃ b, P r = b := ⟨_, rfl⟩
   rw [hb] at hq
   have HQ := hide hq
   have HPB := hide hb
   clear hq hb h63
   cases b with
   | true =>
    go_wp2_with fail
    refine HQ.out.mono ?_
    rintro e w2 ⟨rfl, E2⟩
    have HE := hide (HX.out.trans E2)
    have hg : gtN P n = r := by
     obtain ⟨m, rfl⟩ : ∃ m, r = m + 1 := ⟨r - 1, by omega⟩
     exact gtN_at P n m hr HNO.out HPB.out
    have HG := hide hg
    clear E2 hg
    go_wp2
    go_ret
    exact ⟨by rw [HG.out]; rfl, HE.out⟩
   | false =>
    go_wp2_with fail
    refine HQ.out.mono ?_
    rintro e w2 ⟨rfl, E2⟩
    have HE := hide (HX.out.trans E2)
    have hwr := HWR.out
    have HN2 := hide (show ∀ v, r - 1 < v → v ≤ n → P v = false from fun v h1 h2 => by
     by_cases e : v = r
     ·rw [e]; exact HPB.out
     ·exact HNO.out v (by omega) h2)
    clear E2 HWR
    go_wp2
    go_roundw
    case rel => exact ⟨r - 1, by omega, by first | rfl | simp, HN2.out, HE.out⟩
    case measure => simp [intOf] <;> omega
  ·have hr00 : r = 0 := by omega
   have hg : gtN P n = 0 := by
    rw [gtN_down P n r hr HNO.out, hr00]
    rfl
   have HG := hide hg
   have hrn : ¬ (r : Int) > 0 := by omega
   have HR0 := hide hr00
   clear hg hr00
   go_wp2
   go_ret
   exact ⟨by rw [HG.out]; rfl, HX.out⟩
end Go.Proofs.YtkhebanpplokdaaGreatDoor
namespace Go.Proofs.YtkhebanpplokdaaGreatDoor
open Go.ChangeShapes Go.WideShapes Go.ChangeAt Go.RowKit Go.Lib Go.Shelf Go.Maps
theorem mads_at {w : World} {a : Option Addr} {n cap : Nat} {xs : List MadeD} (h : Sl encM 3 w (.slice a n cap) xs) (i : Nat) (hi : i < xs.length) :
  ∃ b off, a = some ⟨b, off, none⟩ ∧ b < w.heap.size ∧ w.cell? ⟨b, off + i * 3, none⟩ = some (ptrO xs[i].b) ∧ w.cell? ⟨b, off + i * 3 + 1, none⟩ = some (.int .i64 xs[i].acks) ∧ w.cell? ⟨b, off + i * 3 + 2, none⟩ = some (.int .i64 xs[i].pins) := by
 obtain ⟨_, a', cap', hv, _, hc⟩ := h
 cases hv
 obtain ⟨b, off, ha, hb, hc⟩ := hc i xs[i] (List.getElem?_eq_getElem hi)
 exact ⟨b, off, ha, hb, by simpa using hc 0 _ rfl, by simpa using hc 1 _ rfl, by simpa using hc 2 _ rfl⟩
set_option maxRecDepth 100000 in
set_option maxHeartbeats 2000000 in
theorem live1_any {B : Nat} {w : World} {p bm : Nat} {vv : Value} {N : Nat} {pl : PlD} (h : PlaneIs B w p bm vv N pl) (bx : Nat) (cx : w.cell? ⟨bx, 0, none⟩ = some (.pointer (some ⟨p, 0, none⟩))) (v : Nat) (h1 : 1 ≤ v) (h2 : v ≤ pl.V.length) :
  Calls Tryz.prog 61 #[.int .i64 v, .pointer (some ⟨bx, 0, none⟩)] w fun e w' => e = .returned (.bool (ackAt pl v)) ∧ Ext w w' := by
 obtain ⟨m, rfl⟩ : ∃ m, v = m + 1 := ⟨v - 1, by omega⟩
 have hm : m < pl.V.length := by omega
 have c0 := h.c0
 have c1 := h.c1
 have hr := h.row
 have h63 := owns_len hr
 obtain ⟨a, c, hv⟩ := owns_shape hr
 rw [hv] at c1 hr
 obtain ⟨b, off, rfl, hbb, d1, d2, d3⟩ := mads_at (Sl.of_own' encM_len hr) m hm
 have hg : pl.V.getD (m + 1 - 1) made0 = pl.V[m] := by
  rw [Nat.add_sub_cancel, List.getD_eq_getElem?_getD, List.getElem?_eq_getElem hm]
  rfl
 have hw : IntKind.i64.wrap (((m + 1 : Nat) : Int) - 1) = (m : Int) := by rw [IntKind.wrap_i64]; omega
 have hmz : (m : Int) < pl.V.length := by omega
 have hm0 : (0 : Int) ≤ m := by omega
 unfold ackAt
 rw [hg]
 generalize pl.V[m].acks = x at d2 ⊢
 generalize pl.k = k at c0 ⊢
 clear h hr hv hg d1 d3 h63 h1 h2 hm
 generalize pl.V.length = n at *
 obtain ⟨vz, hvz⟩ : ∃ vz : Int, ((m + 1 : Nat) : Int) = vz := ⟨_, rfl⟩
 rw [hvz] at hw ⊢
 clear hvz
 by_cases e : x = k
 ·have e1 : (x == k) = true := by simpa using e
  rw [decide_eq_true e]
  clear e
  go_enter Tryz.func61, Tryz.ntmps61
  go_wp2_with fail
  go_quiet (fail)
  go_wp2
  go_ret
  exact ⟨rfl, Below.drewN' (Below.refl _ _) _⟩
 ·have e1 : (x == k) = false := by simpa using e
  rw [decide_eq_false e]
  clear e
  go_enter Tryz.func61, Tryz.ntmps61
  go_wp2_with fail
  go_quiet (fail)
  go_wp2
  go_ret
  exact ⟨rfl, Below.drewN' (Below.refl _ _) _⟩
theorem live_any {B : Nat} {w : World} {p bm : Nat} {vv : Value} {N : Nat} {pl : PlD} (h : PlaneIs B w p bm vv N pl) :
  Calls Tryz.prog 21 #[.pointer (some ⟨p, 0, none⟩)] w fun e w' => e = .returned (.int .i64 (liveN pl : Nat)) ∧ Ext w w' := by
 have hx : Ext w (w.alloc (.cells #[.pointer (some ⟨p, 0, none⟩)] 48)) := (Below.refl _ _).alloc (Nat.le_refl _) _
 have hb := heap_alloc_new w (.cells #[.pointer (some ⟨p, 0, none⟩)] 48)
 have H := hide h
 clear h
 go_enter Tryz.func21, Tryz.ntmps21
 go_wp2_with fail
 generalize w.alloc (.cells #[.pointer (some ⟨p, 0, none⟩)] 48) = W at hx hb ⊢
 have cx : W.cell? ⟨w.heap.size, 0, none⟩ = some (.pointer (some ⟨p, 0, none⟩)) := by simp [World.cell?, hb]
 refine (greatestLive (H.out.ext hx) w.heap.size (ackAt pl) (fun v X h1 h2 hX => live1_any ((H.out.ext hx).ext hX) w.heap.size ((hX.cell (p := ⟨w.heap.size, 0, none⟩) (World.block_lt_of_cell? W _ cx)).trans cx) v h1 h2)).mono ?_
 rintro e w2 ⟨rfl, E2⟩
 have HE := hide (hx.trans E2)
 clear E2 hx hb cx H
 go_wp2
 go_ret
 exact ⟨rfl, HE.out⟩
end Go.Proofs.YtkhebanpplokdaaGreatDoor
