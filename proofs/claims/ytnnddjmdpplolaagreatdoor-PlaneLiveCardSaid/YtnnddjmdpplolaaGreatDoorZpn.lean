/- Merged texts (PnL, PnM, PnN, PnQ). -/
import Derived.Test.YtnnddjmdpplolaaGreatDoorZpj
import Derived.Test.YtnnddjmdpplolaaGreatDoorZpe
/- Law 17's says. -/
namespace Go.Proofs.YtnnddjmdpplolaaGreatDoor
open Go.ChangeShapes Go.WideShapes Go.ChangeAt Go.RowKit Go.Lib Go.Shelf Go.Maps
/-- a proxy says what is told of a place, or nothing -/
def saysP (pl : PlD) (j : Nat) (x : Int) : PlD := if x = 1 then ackP pl ((j % 3 : Nat) : Int) ((j / 3 + 1 : Nat) : Int) else if x = 2 then sayP pl ((j % 3 : Nat) : Int) ((j / 3 + 1 : Nat) : Int) 2 else pl
set_option maxRecDepth 100000 in
set_option maxHeartbeats 4000000 in
theorem says_any {B : Nat} {w : World} {p bm : Nat} {vv : Value} {N : Nat} {pl : PlD} (h : PlaneIs B w p bm vv N pl) (j : Nat) (x : Int) (hx : x = 0 ∨ x = 1 ∨ x = 2) (hk : pl.k = 3) (hj : j < 3 * pl.V.length) (h50 : pl.V.length ≤ 50) (h0 : pl.said (((j % 3 : Nat) : Int), ((j / 3 + 1 : Nat) : Int)) = 0) (hN : N < 1000000) (hak : ∀ m ∈ pl.V, 0 ≤ m.acks ∧ m.acks ≤ 1000000) :
  Calls Tryz.prog 11 #[.pointer (some ⟨p, 0, none⟩), .int .i64 j, .int .i64 x] w fun e w' => e = .returned (.bool true) ∧ PlaneIs B w' p bm vv (N + 1) (saysP pl j x) ∧ Keeps (fun q => q = bm ∨ vv.ownBlock = some q) w w' := by
 have hs : sayE pl ((j % 3 : Nat) : Int) ((j / 3 + 1 : Nat) : Int) = 0 := by
  unfold sayE isPr wasM
  rw [hk, h0]
  have e1 : (decide ((0 : Int) ≤ ((j % 3 : Nat) : Int)) && decide (((j % 3 : Nat) : Int) < 3)) = true := by simp; omega
  have e2 : (decide ((1 : Int) ≤ ((j / 3 + 1 : Nat) : Int)) && decide (((j / 3 + 1 : Nat) : Int) ≤ (pl.V.length : Int))) = true := by simp; omega
  rw [e1, e2]
  simp
 have hI : I64 ((j % 3 : Nat) : Int) ∧ I64 ((j / 3 + 1 : Nat) : Int) := ⟨by constructor <;> omega, by constructor <;> omega⟩
 have HA := hide (ack_any h _ _ hI hN hak)
 have HNK := hide (nack_any h _ _ hI hN)
 have H := hide (h.mono (Nat.le_succ N))
 have HS := hide hs
 have t1 : (j : Int).tmod 3 = ((j % 3 : Nat) : Int) := by rw [Int.tmod_eq_emod_of_nonneg (by omega)]; omega
 have t2 : (j : Int).tdiv 3 = ((j / 3 : Nat) : Int) := by rw [Int.tdiv_eq_ediv_of_nonneg (by omega)]; omega
 have t3 : IntKind.i64.wrap ((j / 3 : Nat) : Int) = ((j / 3 : Nat) : Int) := by rw [IntKind.wrap_i64]; omega
 have t4 : IntKind.i64.wrap (((j / 3 : Nat) : Int) + 1) = ((j / 3 + 1 : Nat) : Int) := by rw [IntKind.wrap_i64]; omega
 obtain ⟨pr, hpr⟩ : ∃ pr : Int, ((j % 3 : Nat) : Int) = pr := ⟨_, rfl⟩
 obtain ⟨ve, hve⟩ : ∃ ve : Int, ((j / 3 + 1 : Nat) : Int) = ve := ⟨_, rfl⟩
 obtain ⟨dv, hdv⟩ : ∃ dv : Int, ((j / 3 : Nat) : Int) = dv := ⟨_, rfl⟩
 unfold saysP
 rw [hpr] at t1 HA HNK HS
 rw [hve] at t4 HA HNK HS
 rw [hdv] at t2 t3 t4
 rw [hpr, hve]
 clear h hs hI h0 hN hak hk hj h50 hpr hve hdv
 rcases hx with rfl | rfl | rfl
 ·rw [if_neg (by decide), if_neg (by decide)]
  clear t1 t2 t3 t4
  go_enter Tryz.func11, Tryz.ntmps11
  go_wp2
  go_ret
  exact ⟨rfl, H.out, Keeps.refl _ _⟩
 ·rw [if_pos rfl]
  go_enter Tryz.func11, Tryz.ntmps11
  go_wp2_with fail
  refine HA.out.mono ?_
  rintro e w2 ⟨rfl, ⟨hne, -⟩ | ⟨-, hk, hp⟩⟩
  ·exact absurd HS.out hne
  rw [HS.out]
  have HK := hide hk
  have HP := hide hp
  clear hk hp
  go_wp2
  go_ret
  exact ⟨rfl, HP.out, HK.out⟩
 ·rw [if_neg (by decide), if_pos rfl]
  go_enter Tryz.func11, Tryz.ntmps11
  go_wp2_with fail
  refine HNK.out.mono ?_
  rintro e w2 ⟨rfl, ⟨hne, -⟩ | ⟨-, hk, hp⟩⟩
  ·exact absurd HS.out hne
  rw [HS.out]
  have HK := hide (hk.mono (fun q hq => Or.inl hq) : Keeps (fun q => q = bm ∨ vv.ownBlock = some q) w w2)
  have HP := hide hp
  clear hk hp
  go_wp2
  go_ret
  exact ⟨rfl, HP.out, HK.out⟩
end Go.Proofs.YtnnddjmdpplolaaGreatDoor
/- PlaneRow, in plain Lean: what a plane is when some places were told. -/
namespace Go.Proofs.YtnnddjmdpplolaaGreatDoor
open Go.ChangeShapes Go.WideShapes Go.ChangeAt Go.RowKit Go.Lib Go.Shelf Go.Maps
structure RowSt (k : Nat) (l : List Int) (D : Nat → Bool) (pl : PlD) : Prop where
 k3 : pl.k = 3
 len : pl.V.length = k
 acks : ∀ i, i < k → (pl.V.getD i made0).acks = acksD l D i
 said : ∀ x, pl.said x = saidD k l D x
theorem RowSt.bd {k : Nat} {l : List Int} {D : Nat → Bool} {pl : PlD} (h : RowSt k l D pl) : ∀ m ∈ pl.V, 0 ≤ m.acks ∧ m.acks ≤ 1000000 := fun m hm => by
 obtain ⟨i, hi, rfl⟩ := List.getElem_of_mem hm
 have h1 := h.acks i (by rw [← h.len]; exact hi)
 rw [List.getD_eq_getElem?_getD, List.getElem?_eq_getElem hi] at h1
 have h2 := acksD_bd l D i
 have h3 : pl.V[i].acks = acksD l D i := h1
 omega
theorem RowSt.step {k : Nat} {l : List Int} {D : Nat → Bool} {pl : PlD} (h : RowSt k l D pl) (j : Nat) (hj : j < 3 * k) (hd : D j = false) (hx : l.getD j 0 = 0 ∨ l.getD j 0 = 1 ∨ l.getD j 0 = 2) : RowSt k l (addD D j) (saysP pl j (l.getD j 0)) := by
 have hf := saidD_fresh k l D j hd
 have e1 : ((j / 3 + 1 : Nat) : Int).toNat - 1 = j / 3 := by omega
 unfold saysP
 rcases hx with e | e | e
 ·rw [e, if_neg (by decide), if_neg (by decide)]
  refine ⟨h.k3, h.len, fun i hi => ?_, fun x => ?_⟩
  ·rw [h.acks i hi, acksD_add l D j i hd, e, if_neg (by simp)]
  ·rw [h.said x, saidD_add k l D j hj x, e]
   split
   ·rename_i hh
    rw [hh, hf]
   ·rfl
 ·rw [e, if_pos rfl]
  refine ⟨h.k3, by unfold ackP; simpa using h.len, fun i hi => ?_, fun x => ?_⟩
  ·rw [acksD_add l D j i hd, e]
   unfold ackP
   simp only [e1]
   have hl : j / 3 < pl.V.length := by rw [h.len]; omega
   have h1 := h.acks i hi
   by_cases hi3 : i = j / 3
   ·subst hi3
    rw [if_pos (by simp), ← h1]
    simp [List.getD_eq_getElem?_getD, hl, upM]
   ·rw [if_neg (fun hh => hi3 hh.1), ← h1]
    have hne : ¬ j / 3 = i := fun hh => hi3 hh.symm
    simp [List.getD_eq_getElem?_getD, List.getElem?_set, hne]
  ·rw [saidD_add k l D j hj x, e]
   show (if x = _ then (1 : Int) else pl.said x) = _
   rw [h.said x]
 ·rw [e, if_neg (by decide), if_pos rfl]
  refine ⟨h.k3, h.len, fun i hi => ?_, fun x => ?_⟩
  ·show (pl.V.getD i made0).acks = _
   rw [h.acks i hi, acksD_add l D j i hd, e, if_neg (by simp)]
  ·rw [saidD_add k l D j hj x, e]
   show (if x = _ then (2 : Int) else pl.said x) = _
   rw [h.said x]
/-- when all places were told, the live version is the last one that all three have -/
theorem RowSt.live {k : Nat} {l : List Int} {D : Nat → Bool} {pl : PlD} (h : RowSt k l D pl) (hD : ∀ j, j < 3 * k → D j = true) : liveN pl = gtN (fun v => decide (l.getD (3 * (v - 1)) 0 = 1 ∧ l.getD (3 * (v - 1) + 1) 0 = 1 ∧ l.getD (3 * (v - 1) + 2) 0 = 1)) k := by
 unfold liveN
 rw [h.len]
 refine gtN_congr k fun v h1 h2 => ?_
 unfold ackAt
 rw [h.acks (v - 1) (by omega), h.k3]
 exact decide_eq_decide.2 (acksD_all l D (v - 1) ⟨hD _ (by omega), hD _ (by omega), hD _ (by omega)⟩)
end Go.Proofs.YtnnddjmdpplolaaGreatDoor
/- What a plane's methods write, by type; the methods, with the row of versions out of sight. -/
namespace Go.Proofs.YtnnddjmdpplolaaGreatDoor
open Go.ChangeShapes Go.WideShapes Go.ChangeAt Go.RowKit Go.Lib Go.Shelf Go.Maps
/-- a block that a plane's methods may write: from B on, and of no other type than theirs -/
def PX (B : Nat) (w : World) (q : Nat) : Prop := B ≤ q ∧ ∀ cs t f, w.heap[q]? = some (.cells cs t f) → t = 80 ∨ t = 104
def KP (B : Nat) (w w' : World) : Prop := Keeps (PX B w) w w'
section
variable {B : Nat} {a b c w w' : World}
theorem KP.refl (B : Nat) (w : World) : KP B w w := Keeps.refl _ _
theorem KP.of_ext (e : Ext w w') : KP B w w' := Keeps.of_ext e
theorem KP.trans (h : KP B a b) (k : KP B b c) : KP B a c := by
 refine ⟨k.os.trans h.os, k.tape.trans h.tape, k.output.trans h.output, Nat.le_trans h.size k.size, fun i hi hx => ?_⟩
 have h1 := h.block i hi hx
 exact (k.block i (Nat.lt_of_lt_of_le hi h.size) (fun hb => hx ⟨hb.1, fun cs t f e => hb.2 cs t f (h1.trans e)⟩)).trans h1
theorem KP.own (k : KP B w w') {base size n : Nat} {e : TypeId} {v : Value} {xs : List Value} (h : w.ownsRow base e size v n xs) (h1 : e ≠ 80) (h2 : e ≠ 104) : w'.ownsRow base e size v n xs :=
 owns_keeps h k fun g hg hx => by
  obtain ⟨cs, fz, hc⟩ := ownsRow_kind h g hg
  rcases hx.2 _ _ _ hc with e1 | e1
  ·exact h1 e1
  ·exact h2 e1
theorem KP.conf (k : KP B w w') {C : Nat} {c : ConfD} (ho : ConfOwn C w c) : ConfOwn C w' c :=
 ⟨k.own ho.s (by decide) (by decide), fun s hs => k.own (ho.k s hs) (by decide) (by decide), k.own ho.e (by decide) (by decide), k.own ho.r (by decide) (by decide), fun r hr => ⟨k.own (ho.rr r hr).1 (by decide) (by decide), k.own (ho.rr r hr).2.1 (by decide) (by decide), k.own (ho.rr r hr).2.2.1 (by decide) (by decide), k.own (ho.rr r hr).2.2.2 (by decide) (by decide)⟩, k.own ho.t (by decide) (by decide)⟩
theorem KP.boxC (k : KP B w w') {g : Nat} {c : ConfD} (h : BoxC w g c) : BoxC w' g c :=
 (k.block g h.lt (fun hx => by rcases hx.2 _ _ _ h with e1 | e1 <;> exact absurd e1 (by decide))).trans h
theorem KP.ext {W : World} (k : KP B w w') (h : Ext W w) (hB : W.heap.size ≤ B) : Ext W w' := Keeps.ext h k fun _ hq => Nat.le_trans hB hq.1
theorem KP.below (k : KP B w w') (hB : B ≤ w.heap.size) : Below B w w' := Keeps.below k hB fun _ hq => hq.1
variable {p bm : Nat} {vv : Value} {N : Nat} {pl : PlD}
theorem PlaneIs.kp (h : PlaneIs B w p bm vv N pl) (k : Keeps (fun q => q = p ∨ q = bm ∨ vv.ownBlock = some q) w w') : KP B w w' := by
 refine k.mono fun q hq => ?_
 rcases hq with rfl | rfl | hq
 ·refine ⟨h.hp, fun cs t f e => ?_⟩
  rw [h.box] at e
  cases e
  exact .inl rfl
 ·refine ⟨h.hm, fun cs t f e => ?_⟩
  obtain ⟨n, -, hs⟩ := h.sm
  obtain ⟨es, cc, h1⟩ := hs.block
  rw [h1] at e
  cases e
 ·refine ⟨(h.row.lt q hq).1, fun cs t f e => ?_⟩
  exact .inr (owns_type h.row hq e)
/-- a plane; its row of versions out of sight -/
def Pl (B N : Nat) (w : World) (p bm : Nat) (pl : PlD) : Prop := ∃ vv, PlaneIs B w p bm vv N pl
theorem Pl.ext (h : Pl B N w p bm pl) (e : Ext w w') : Pl B N w' p bm pl := by
 obtain ⟨vv, h⟩ := h
 exact ⟨vv, h.ext e⟩
theorem Pl.mono {N' : Nat} (h : Pl B N w p bm pl) (hN : N ≤ N') : Pl B N' w p bm pl := by
 obtain ⟨vv, h⟩ := h
 exact ⟨vv, h.mono hN⟩
theorem Pl.lt (h : Pl B N w p bm pl) : p < w.heap.size := by
 obtain ⟨vv, h⟩ := h
 exact h.lt
theorem Pl.ge (h : Pl B N w p bm pl) : B ≤ p := by
 obtain ⟨vv, h⟩ := h
 exact h.hp
theorem Pl.ver (h : Pl B N w p bm pl) (i : Nat) (hi : i < pl.V.length) (b : Nat) (hb : pl.V[i].b = some b) : w.cell? ⟨b, 0, none⟩ = some (.int .i64 ((i : Int) + 1)) := by
 obtain ⟨vv, h⟩ := h
 exact (h.ver i hi b hb).1
theorem pl_publish (h : Pl B N w p bm pl) (B' : Nat) (c : ConfD) (ho : ConfOwn B' w c) (hB' : B' ≤ w.heap.size) (hf : ConfFit c) (hl : c.E.length ≤ 19) (hr : chkC c = 0) (hm : MaxV w) (h50 : pl.V.length < 50) (hB : B ≤ w.heap.size) :
  Calls Tryz.prog 10 #[.pointer (some ⟨p, 0, none⟩), c.val] w fun e w' => e = .returned (.tuple #[.int .i64 ((pl.V.length : Int) + 1), .int .i64 0]) ∧ (∃ b, Pl B N w' p bm (pubP pl b)) ∧ KP B w w' := by
 obtain ⟨vv, h⟩ := h
 refine (publish_any h B' c ho hB' hf hl hr hm h50 hB).mono ?_
 rintro e w' ⟨rfl, b, vv', w1, B2, -, h1, -, hp, hk, -⟩
 refine ⟨rfl, ⟨b, vv', hp⟩, (KP.of_ext h1).trans ((h.ext h1).kp (hk.mono fun q hq => ?_))⟩
 rcases hq with hq | hq
 ·exact .inl hq
 ·exact .inr (.inr hq)
theorem pl_ack (h : Pl B N w p bm pl) (pr v : Int) (hI : I64 pr ∧ I64 v) (hN : N < 1000000) (hak : ∀ m ∈ pl.V, 0 ≤ m.acks ∧ m.acks ≤ 1000000) :
  Calls Tryz.prog 26 #[.pointer (some ⟨p, 0, none⟩), .int .i64 pr, .int .i64 v] w fun e w' => e = .returned (.int .i64 (sayE pl pr v)) ∧ Pl B (N + 1) w' p bm (if sayE pl pr v = 0 then ackP pl pr v else pl) ∧ KP B w w' := by
 obtain ⟨vv, h⟩ := h
 refine (ack_any h pr v hI hN hak).mono ?_
 rintro e w' ⟨rfl, ⟨hne, E⟩ | ⟨he, hk, hp⟩⟩
 ·rw [if_neg hne]
  exact ⟨rfl, ⟨vv, (h.ext E).mono (Nat.le_succ N)⟩, KP.of_ext E⟩
 ·rw [if_pos he]
  exact ⟨rfl, ⟨vv, hp⟩, h.kp (hk.mono fun q hq => .inr hq)⟩
theorem pl_nack (h : Pl B N w p bm pl) (pr v : Int) (hI : I64 pr ∧ I64 v) (hN : N < 1000000) :
  Calls Tryz.prog 22 #[.pointer (some ⟨p, 0, none⟩), .int .i64 pr, .int .i64 v] w fun e w' => e = .returned (.int .i64 (sayE pl pr v)) ∧ Pl B (N + 1) w' p bm (if sayE pl pr v = 0 then sayP pl pr v 2 else pl) ∧ KP B w w' := by
 obtain ⟨vv, h⟩ := h
 refine (nack_any h pr v hI hN).mono ?_
 rintro e w' ⟨rfl, ⟨hne, E⟩ | ⟨he, hk, hp⟩⟩
 ·rw [if_neg hne]
  exact ⟨rfl, ⟨vv, (h.ext E).mono (Nat.le_succ N)⟩, KP.of_ext E⟩
 ·rw [if_pos he]
  exact ⟨rfl, ⟨vv, hp⟩, h.kp (hk.mono fun q hq => .inr (.inl hq))⟩
theorem pl_live (h : Pl B N w p bm pl) : Calls Tryz.prog 12 #[.pointer (some ⟨p, 0, none⟩)] w fun e w' => e = .returned (.int .i64 (liveN pl : Nat)) ∧ Ext w w' := by
 obtain ⟨vv, h⟩ := h
 exact live_any h
theorem pl_snap (h : Pl B N w p bm pl) (ve : Int) :
  Calls Tryz.prog 14 #[.pointer (some ⟨p, 0, none⟩), .int .i64 ve] w fun e w' => e = .returned (.tuple #[ptrO (plSnap pl ve), .bool (plSnap pl ve).isSome]) ∧ w = w' := by
 obtain ⟨vv, h⟩ := h
 exact snapP_any h ve
theorem pl_next (h : Pl B N w p bm pl) (pr : Int) (hpr : I64 pr) :
  Calls Tryz.prog 15 #[.pointer (some ⟨p, 0, none⟩), .int .i64 pr] w fun e w' => e = .returned (.tuple #[ptrO (nextS pl pr), .bool (nextS pl pr).isSome]) ∧ Ext w w' := by
 obtain ⟨vv, h⟩ := h
 exact nextP_any h pr hpr
theorem pl_new (k : Int) (w : World) (hk : 0 ≤ k) :
  Calls Tryz.prog 7 #[.int .i64 k] w fun e w' => ∃ p bm, e = .returned (.pointer (some ⟨p, 0, none⟩)) ∧ Pl w.heap.size 0 w' p bm ⟨k, [], fun _ => 0⟩ ∧ Ext w w' := (planeNew_any k w hk).mono fun e w' => by
 rintro ⟨p, bm, h1, h2, h3⟩
 exact ⟨p, bm, h1, ⟨_, h2⟩, h3⟩
end
/-! ## two planes -/
/-- two planes; the second one was made behind the first one -/
structure TwoPl (B : Nat) (w : World) (p bm q bn : Nat) (va vb : Value) (N : Nat) (pa pb : PlD) : Prop where
 a : PlaneIs B w p bm va N pa
 b : PlaneIs B w q bn vb N pb
 np : p ≠ q
 nm : bm ≠ bn
 nv : ∀ g, va.ownBlock = some g → vb.ownBlock ≠ some g
section
variable {B : Nat} {w w' : World} {p bm q bn : Nat} {va vb : Value} {N : Nat} {pa pb : PlD}
theorem TwoPl.swap (h : TwoPl B w p bm q bn va vb N pa pb) : TwoPl B w q bn p bm vb va N pb pa := ⟨h.b, h.a, fun e => h.np e.symm, fun e => h.nm e.symm, fun g h1 h2 => h.nv g h2 h1⟩
theorem TwoPl.ext (h : TwoPl B w p bm q bn va vb N pa pb) (e : Ext w w') : TwoPl B w' p bm q bn va vb N pa pb := ⟨h.a.ext e, h.b.ext e, h.np, h.nm, h.nv⟩
/-- what the first plane's methods write is none of the second one's -/
theorem TwoPl.far (h : TwoPl B w p bm q bn va vb N pa pb) (k : Keeps (fun g => g = p ∨ g = bm ∨ va.ownBlock = some g) w w') : PlaneIs B w' q bn vb N pb := by
 obtain ⟨n, -, hs⟩ := h.a.sm
 obtain ⟨es, cc, h1⟩ := hs.block
 obtain ⟨n', -, hs'⟩ := h.b.sm
 obtain ⟨es', cc', h1'⟩ := hs'.block
 refine h.b.keeps k ?_ ?_ ?_ ?_
 ·rintro (e | e | e)
  ·exact h.np e.symm
  ·have h2 := h.b.box
   rw [e, h1] at h2
   cases h2
  ·exact absurd (owns_type h.a.row e h.b.box) (by decide)
 ·rintro (e | e | e)
  ·have h2 := h.a.box
   rw [← e, h1'] at h2
   cases h2
  ·exact h.nm e.symm
  ·obtain ⟨cs, fz, h2⟩ := ownsRow_kind h.a.row bn e
   rw [h1'] at h2
   cases h2
 ·intro g hg
  obtain ⟨cs, fz, h2⟩ := ownsRow_kind h.b.row g hg
  rintro (e | e | e)
  ·have h3 := h.a.box
   rw [← e, h2] at h3
   cases h3
  ·rw [e, h1] at h2
   cases h2
  ·exact h.nv g e hg
 ·rintro g (e | e | e) cs f h2
  ·rw [e, h.a.box] at h2
   cases h2
  ·rw [e, h1] at h2
   cases h2
  ·exact absurd (owns_type h.a.row e h2) (by decide)
/-- a word to the first plane -/
theorem TwoPl.said (h : TwoPl B w p bm q bn va vb N pa pb) {pl : PlD} (k : Keeps (fun g => g = bm ∨ va.ownBlock = some g) w w') (hp : PlaneIs B w' p bm va (N + 1) pl) : TwoPl B w' p bm q bn va vb (N + 1) pl pb :=
 ⟨hp, (h.far (k.mono fun _ hg => .inr hg)).mono (Nat.le_succ N), h.np, h.nm, h.nv⟩
theorem TwoPl.kp (h : TwoPl B w p bm q bn va vb N pa pb) (k : Keeps (fun g => g = bm ∨ va.ownBlock = some g) w w') : KP B w w' := h.a.kp (k.mono fun _ hg => .inr hg)
/-- a version more of the first plane -/
theorem two_publish (h : TwoPl B w p bm q bn va vb N pa pb) (B' : Nat) (c : ConfD) (ho : ConfOwn B' w c) (hB' : B' ≤ w.heap.size) (hf : ConfFit c) (hl : c.E.length ≤ 19) (hr : chkC c = 0) (hm : MaxV w) (h50 : pa.V.length < 50) (hB : B ≤ w.heap.size) :
  Calls Tryz.prog 10 #[.pointer (some ⟨p, 0, none⟩), c.val] w fun e w' => e = .returned (.tuple #[.int .i64 ((pa.V.length : Int) + 1), .int .i64 0]) ∧ (∃ b v', TwoPl B w' p bm q bn v' vb N (pubP pa b) pb) ∧ KP B w w' := by
 refine (publish_any h.a B' c ho hB' hf hl hr hm h50 hB).mono ?_
 rintro e w' ⟨rfl, b, v', w1, B2, -, h1, -, hp, hk, hv⟩
 have H1 := h.ext h1
 have hk' : Keeps (fun g => g = p ∨ g = bm ∨ va.ownBlock = some g) w1 w' := hk.mono fun g hg => by
  rcases hg with hg | hg
  ·exact .inl hg
  ·exact .inr (.inr hg)
 refine ⟨rfl, ⟨b, v', hp, H1.far hk', h.np, h.nm, fun g hg hg2 => ?_⟩, (KP.of_ext h1).trans (H1.a.kp hk')⟩
 rcases hv with hv | hv
 ·rw [hv] at hg
  exact h.nv g hg hg2
 ·have := hv g hg
  have := (H1.b.row.lt g hg2).2
  omega
end
end Go.Proofs.YtnnddjmdpplolaaGreatDoor
/- Pin, Unpin, Drop in plain Lean; PlaneLive's plain law. -/
namespace Go.Proofs.YtnnddjmdpplolaaGreatDoor
open Go.ChangeShapes Go.WideShapes Go.ChangeAt Go.RowKit Go.Lib Go.Shelf Go.Maps
def madeAt (p : PlD) (i : Nat) : MadeD := p.V.getD i made0
theorem madeAt_eq (p : PlD) {i : Nat} (hi : i < p.V.length) : madeAt p i = p.V[i] := by
 unfold madeAt
 rw [List.getD_eq_getElem?_getD, List.getElem?_eq_getElem hi]
 rfl
def pinE (p : PlD) (v : Int) : Int := if v = 0 ∨ v ≠ (liveN p : Int) then 17 else 0
def pinM (m : MadeD) (d : Int) : MadeD := ⟨m.b, m.acks, m.pins + d⟩
def pinP (p : PlD) (v d : Int) : PlD := { p with V := p.V.set (v.toNat - 1) (pinM (madeAt p (v.toNat - 1)) d) }
def unpE (p : PlD) (v : Int) : Int := if wasM p v = false then 17 else if (madeAt p (v.toNat - 1)).pins = 0 then 17 else 0
def dropM (m : MadeD) : MadeD := if m.pins = 0 then ⟨none, m.acks, m.pins⟩ else m
/-- the first t versions were asked whether they may be dropped -/
def dropN (p : PlD) (t : Nat) : PlD := { p with V := p.V.mapIdx fun i m => if i < t then dropM m else m }
def mayDrop (m : MadeD) : Bool := m.b.isSome && m.pins == 0
def goneN (p : PlD) (t : Nat) : List Int := ((List.range t).filter fun i => mayDrop (madeAt p i)).map fun i : Nat => (i : Int) + 1
theorem dropN_zero (p : PlD) : dropN p 0 = p := by
 obtain ⟨k, V, said⟩ := p
 unfold dropN
 simp only [Nat.not_lt_zero, if_false]
 congr 1
 refine List.ext_getElem (by simp) fun i h1 h2 => by simp
theorem dropN_len (p : PlD) (t : Nat) : (dropN p t).V.length = p.V.length := by simp [dropN]
theorem dropN_get (p : PlD) (t i : Nat) (hi : i < p.V.length) : (dropN p t).V[i]'(by rw [dropN_len]; exact hi) = if i < t then dropM p.V[i] else p.V[i] := by simp [dropN]
theorem madeAt_drop (p : PlD) (t i : Nat) (hi : i < p.V.length) : madeAt (dropN p t) i = if i < t then dropM (madeAt p i) else madeAt p i := by
 rw [madeAt_eq (dropN p t) (by rw [dropN_len]; exact hi), dropN_get p t i hi, madeAt_eq p hi]
theorem dropM_acks (m : MadeD) : (dropM m).acks = m.acks := by unfold dropM; split <;> rfl
theorem dropM_pins (m : MadeD) : (dropM m).pins = m.pins := by unfold dropM; split <;> rfl
theorem dropM_not (m : MadeD) (h : mayDrop m = false) : dropM m = m := by
 obtain ⟨b, a, n⟩ := m
 unfold mayDrop at h
 unfold dropM
 simp only at h ⊢
 split
 ·rename_i hn
  subst hn
  cases b with
  | none => rfl
  | some b => simp at h
 ·rfl
theorem dropN_succ (p : PlD) (t : Nat) (ht : t < p.V.length) : dropN p (t + 1) = { dropN p t with V := (dropN p t).V.set t (dropM (madeAt p t)) } := by
 obtain ⟨k, V, said⟩ := p
 unfold dropN
 simp only
 congr 1
 refine List.ext_getElem (by simp) fun i h1 h2 => ?_
 have hi : i < V.length := by simpa using h1
 rw [List.getElem_set]
 simp only [List.getElem_mapIdx]
 by_cases e : t = i
 ·subst e
  rw [if_pos rfl, if_pos (by omega), madeAt_eq _ ht]
 ·rw [if_neg e]
  by_cases h : i < t
  ·rw [if_pos h, if_pos (by omega)]
  ·rw [if_neg h, if_neg (by omega)]
theorem dropN_same (p : PlD) (t : Nat) (ht : t < p.V.length) (h : mayDrop (madeAt p t) = false) : dropN p (t + 1) = dropN p t := by
 rw [dropN_succ p t ht, dropM_not _ h]
 obtain ⟨k, V, said⟩ := p
 unfold dropN
 simp only
 congr 1
 refine List.ext_getElem (by simp) fun i h1 h2 => ?_
 rw [List.getElem_set]
 split
 ·rename_i e
  subst e
  rw [madeAt_eq _ ht]
  simp
 ·rfl
theorem goneN_succ (p : PlD) (t : Nat) : goneN p (t + 1) = if mayDrop (madeAt p t) = true then goneN p t ++ [(t : Int) + 1] else goneN p t := by
 unfold goneN
 rw [List.range_succ, List.filter_append, List.map_append]
 by_cases h : mayDrop (madeAt p t) = true
 ·rw [if_pos h]
  simp [h]
 ·rw [if_neg h]
  simp [h]
theorem goneN_len (p : PlD) : ∀ t, (goneN p t).length ≤ t := fun t => by
 unfold goneN
 rw [List.length_map]
 exact Nat.le_trans (List.length_filter_le _ _) (by simp)
theorem goneN_mem {p : PlD} {t : Nat} {x : Int} (h : x ∈ goneN p t) : ∃ i : Nat, i < t ∧ x = (i : Int) + 1 ∧ (madeAt p i).pins = 0 := by
 unfold goneN at h
 obtain ⟨i, hi, rfl⟩ := List.mem_map.1 h
 obtain ⟨h1, h2⟩ := List.mem_filter.1 hi
 refine ⟨i, List.mem_range.1 h1, rfl, ?_⟩
 unfold mayDrop at h2
 simp at h2
 exact h2.2
theorem ackAt_made (p : PlD) (v : Nat) : ackAt p v = decide ((madeAt p (v - 1)).acks = p.k) := rfl
theorem live_drop (p : PlD) (t : Nat) : liveN (dropN p t) = liveN p := by
 unfold liveN
 rw [dropN_len]
 refine gtN_congr _ fun v h1 h2 => ?_
 rw [ackAt_made, ackAt_made, madeAt_drop p t (v - 1) (by omega)]
 split
 ·rw [dropM_acks]
  rfl
 ·rfl
theorem gtN_ge (Q : Nat → Bool) (v : Nat) (hq : Q v = true) : ∀ m, v ≤ m → v ≤ gtN Q m
 | 0, h => by omega
 | m + 1, h => by
  rw [gtN]
  split
  ·omega
  ·rename_i hn
   refine gtN_ge Q v hq m ?_
   by_cases e : v = m + 1
   ·subst e
    exact absurd hq hn
   ·omega
theorem gtN_is (P : Nat → Bool) : ∀ n, gtN P n = 0 ∨ (1 ≤ gtN P n ∧ gtN P n ≤ n ∧ P (gtN P n) = true)
 | 0 => .inl rfl
 | n + 1 => by
  unfold gtN
  split
  ·rename_i h
   exact .inr ⟨by omega, Nat.le_refl _, h⟩
  ·rcases gtN_is P n with h | ⟨h1, h2, h3⟩
   ·exact .inl h
   ·exact .inr ⟨h1, by omega, h3⟩
theorem gtN_mono {P Q : Nat → Bool} (n m : Nat) (hm : n ≤ m) (h : ∀ v, 1 ≤ v → v ≤ n → P v = true → Q v = true) : gtN P n ≤ gtN Q m := by
 rcases gtN_is P n with h0 | ⟨h1, h2, h3⟩
 ·omega
 ·exact gtN_ge Q _ (h _ h1 h2 h3) m (by omega)
/-! ## PlaneLive -/
def one1 (p : PlD) (pr v : Int) : Int := if p.said (pr, v) = 1 then 1 else 0
def cnt3 (p : PlD) (v : Int) : Int := one1 p 0 v + one1 p 1 v + one1 p 2 v
theorem one1_bd (p : PlD) (pr v : Int) : 0 ≤ one1 p pr v ∧ one1 p pr v ≤ 1 := by unfold one1; split <;> omega
theorem cnt3_bd (p : PlD) (v : Int) : 0 ≤ cnt3 p v ∧ cnt3 p v ≤ 3 := by
 have h1 := one1_bd p 0 v
 have h2 := one1_bd p 1 v
 have h3 := one1_bd p 2 v
 unfold cnt3
 omega
structure LvSt (pl : PlD) (M : Nat) (pins : List Int) : Prop where
 k3 : pl.k = 3
 len : pl.V.length ≤ M
 acks : ∀ i : Nat, i < pl.V.length → (madeAt pl i).acks = cnt3 pl ((i : Int) + 1)
 out : ∀ pr v : Int, (v : Int) > pl.V.length → pl.said (pr, v) = 0
 b : ∀ i : Nat, i < pl.V.length → liveN pl ≤ i + 1 → (madeAt pl i).b.isSome = true
 pin : ∀ i : Nat, i < pl.V.length → (madeAt pl i).pins ≠ 0 → (madeAt pl i).b.isSome = true
 bd : ∀ i : Nat, i < pl.V.length → 0 ≤ (madeAt pl i).pins ∧ (madeAt pl i).pins ≤ M
 pins : ∀ v ∈ pins, ∃ i : Nat, i < pl.V.length ∧ v = (i : Int) + 1 ∧ (madeAt pl i).pins ≠ 0
theorem LvSt.ackb {pl : PlD} {M : Nat} {pins : List Int} (h : LvSt pl M pins) : ∀ m ∈ pl.V, 0 ≤ m.acks ∧ m.acks ≤ 1000000 := fun m hm => by
 obtain ⟨i, hi, rfl⟩ := List.getElem_of_mem hm
 rw [← madeAt_eq pl hi, h.acks i hi]
 have := cnt3_bd pl ((i : Int) + 1)
 omega
theorem LvSt.pinb {pl : PlD} {M : Nat} {pins : List Int} (h : LvSt pl M pins) (hM : M ≤ 1000) : ∀ m ∈ pl.V, 0 ≤ m.pins ∧ m.pins ≤ 1000000 := fun m hm => by
 obtain ⟨i, hi, rfl⟩ := List.getElem_of_mem hm
 have := h.bd i hi
 rw [madeAt_eq pl hi] at this
 omega
theorem LvSt.new (M : Nat) : LvSt ⟨3, [], fun _ => 0⟩ M [] :=
 ⟨rfl, Nat.zero_le _, fun i hi => absurd hi (by simp), fun _ _ _ => rfl, fun i hi => absurd hi (by simp), fun i hi => absurd hi (by simp), fun i hi => absurd hi (by simp), fun v hv => by cases hv⟩
theorem LvSt.mono {pl : PlD} {M M' : Nat} {pins : List Int} (h : LvSt pl M pins) (hM : M ≤ M') : LvSt pl M' pins :=
 ⟨h.k3, Nat.le_trans h.len hM, h.acks, h.out, h.b, h.pin, fun i hi => ⟨(h.bd i hi).1, by have := (h.bd i hi).2; omega⟩, h.pins⟩
/-- the live version is there, and so is what is pinned -/
theorem LvSt.live {pl : PlD} {M : Nat} {pins : List Int} (h : LvSt pl M pins) (hl : 0 < liveN pl) : (plSnap pl (liveN pl : Nat)).isSome = true := by
 rcases gtN_is (ackAt pl) pl.V.length with h0 | ⟨h1, h2, h3⟩
 ·unfold liveN at hl
  omega
 ·have e : liveN pl = gtN (ackAt pl) pl.V.length := rfl
  rw [← e] at h1 h2 h3
  unfold plSnap
  rw [if_pos (by unfold wasM; simp; omega)]
  exact h.b (((liveN pl : Nat) : Int).toNat - 1) (by omega) (by omega)
theorem LvSt.pinned {pl : PlD} {M : Nat} {pins : List Int} (h : LvSt pl M pins) {v : Int} (hv : v ∈ pins) : (plSnap pl v).isSome = true := by
 obtain ⟨i, hi, rfl, hp⟩ := h.pins v hv
 unfold plSnap
 rw [if_pos (by unfold wasM; simp; omega)]
 have e : ((i : Int) + 1).toNat - 1 = i := by omega
 rw [e]
 exact h.pin i hi hp
theorem madeAt_pub (pl : PlD) (b i : Nat) : madeAt (pubP pl b) i = if i < pl.V.length then madeAt pl i else if i = pl.V.length then ⟨some b, 0, 0⟩ else made0 := by
 unfold madeAt pubP
 simp only [List.getD_eq_getElem?_getD, List.getElem?_append]
 split
 ·rfl
 ·split
  ·rename_i e
   rw [e]
   simp
  ·rename_i h1 h2
   have : ([⟨some b, 0, 0⟩] : List MadeD)[i - pl.V.length]? = none := by
    rw [List.getElem?_eq_none]
    simp
    omega
   rw [this]
   rfl
theorem live_pub (pl : PlD) (b : Nat) (hk : pl.k = 3) : liveN (pubP pl b) = liveN pl := by
 unfold liveN
 have e : (pubP pl b).V.length = pl.V.length + 1 := by simp [pubP]
 rw [e]
 have hn : ackAt (pubP pl b) (pl.V.length + 1) = false := by
  rw [ackAt_made, madeAt_pub, if_neg (by omega), if_pos (by omega)]
  show decide ((0 : Int) = pl.k) = false
  rw [hk]
  rfl
 show gtN _ (pl.V.length + 1) = _
 rw [show gtN (ackAt (pubP pl b)) (pl.V.length + 1) = gtN (ackAt (pubP pl b)) pl.V.length by
  rw [gtN, if_neg (by rw [hn]; decide)]]
 refine gtN_congr _ fun v h1 h2 => ?_
 rw [ackAt_made, ackAt_made, madeAt_pub, if_pos (by omega)]
 rfl
theorem LvSt.pub {pl : PlD} {M : Nat} {pins : List Int} (h : LvSt pl M pins) (b : Nat) : LvSt (pubP pl b) (M + 1) pins := by
 have e : (pubP pl b).V.length = pl.V.length + 1 := by simp [pubP]
 have hc : ∀ v, cnt3 (pubP pl b) v = cnt3 pl v := fun v => rfl
 refine ⟨h.k3, by have := h.len; omega, fun i hi => ?_, fun pr v hv => h.out pr v (by omega), fun i hi hl => ?_, fun i hi hp => ?_, fun i hi => ?_, fun v hv => ?_⟩
 ·rw [madeAt_pub, hc]
  by_cases hil : i < pl.V.length
  ·rw [if_pos hil]
   exact h.acks i hil
  ·rw [if_neg hil, if_pos (by omega)]
   unfold cnt3 one1
   rw [h.out _ _ (by omega), h.out _ _ (by omega), h.out _ _ (by omega)]
   rfl
 ·rw [live_pub pl b h.k3] at hl
  rw [madeAt_pub]
  by_cases hil : i < pl.V.length
  ·rw [if_pos hil]
   exact h.b i hil hl
  ·rw [if_neg hil, if_pos (by omega)]
   rfl
 ·rw [madeAt_pub] at hp ⊢
  by_cases hil : i < pl.V.length
  ·rw [if_pos hil] at hp ⊢
   exact h.pin i hil hp
  ·rw [if_neg hil, if_pos (by omega)]
   rfl
 ·rw [madeAt_pub]
  by_cases hil : i < pl.V.length
  ·rw [if_pos hil]
   have := h.bd i hil
   omega
  ·rw [if_neg hil, if_pos (by omega)]
   show (0 : Int) ≤ 0 ∧ (0 : Int) ≤ ((M + 1 : Nat) : Int)
   omega
 ·obtain ⟨i, hi, rfl, hp⟩ := h.pins v hv
  refine ⟨i, by omega, rfl, ?_⟩
  rw [madeAt_pub, if_pos hi]
  exact hp
theorem sayE_zero {pl : PlD} {pr v : Int} (h : sayE pl pr v = 0) : isPr pl pr = true ∧ wasM pl v = true ∧ pl.said (pr, v) = 0 := by
 unfold sayE at h
 cases h1 : isPr pl pr <;> rw [h1] at h
 ·simp at h
 ·cases h2 : wasM pl v <;> rw [h2] at h
  ·simp at h
  ·refine ⟨rfl, rfl, ?_⟩
   by_cases h3 : pl.said (pr, v) = 0
   ·exact h3
   ·simp [h3] at h
theorem madeAt_ack (pl : PlD) (pr v : Int) (hv : wasM pl v = true) (i : Nat) : madeAt (ackP pl pr v) i = if (i : Int) + 1 = v then upM (madeAt pl i) else madeAt pl i := by
 have hv' : 1 ≤ v ∧ v ≤ (pl.V.length : Int) := by unfold wasM at hv; simpa using hv
 unfold madeAt ackP
 simp only [List.getD_eq_getElem?_getD, List.getElem?_set]
 by_cases e : (i : Int) + 1 = v
 ·have e2 : v.toNat - 1 = i := by omega
  rw [if_pos e, if_pos e2, if_pos (by omega), e2]
  rfl
 ·rw [if_neg e, if_neg (by omega)]
theorem cnt3_say (pl : PlD) (pr v x : Int) (hp : isPr pl pr = true) (hk : pl.k = 3) (h0 : pl.said (pr, v) = 0) (u : Int) : cnt3 (sayP pl pr v x) u = if u = v ∧ x = 1 then cnt3 pl u + 1 else cnt3 pl u := by
 have hp' : 0 ≤ pr ∧ pr < 3 := by unfold isPr at hp; rw [hk] at hp; simpa using hp
 have ho : ∀ q : Int, one1 (sayP pl pr v x) q u = if q = pr ∧ u = v then (if x = 1 then 1 else 0) else one1 pl q u := fun q => by
  unfold one1 sayP
  simp only [Prod.mk.injEq]
  split
  ·rfl
  ·rfl
 have hz : u = v → one1 pl pr u = 0 := fun e => by
  unfold one1
  rw [e, h0]
  rfl
 unfold cnt3
 rw [ho, ho, ho]
 by_cases hu : u = v
 ·have hz := hz hu
  have h3 : pr = 0 ∨ pr = 1 ∨ pr = 2 := by omega
  by_cases hx : x = 1
  ·rcases h3 with rfl | rfl | rfl <;> simp [hu, hx] at hz ⊢ <;> omega
  ·rcases h3 with rfl | rfl | rfl <;> simp [hu, hx] at hz ⊢ <;> omega
 ·simp [hu]
/-- a version that all three have gets no further word of having it -/
theorem live_ack {pl : PlD} {M : Nat} {pins : List Int} (h : LvSt pl M pins) (pr v : Int) (hs : sayE pl pr v = 0) : liveN pl ≤ liveN (ackP pl pr v) := by
 obtain ⟨h1, h2, h3⟩ := sayE_zero hs
 unfold liveN
 refine gtN_mono _ _ (by simp [ackP]) fun u hu1 hu2 hu3 => ?_
 rw [ackAt_made] at hu3 ⊢
 have hu4 : (madeAt pl (u - 1)).acks = pl.k := by simpa using hu3
 rw [madeAt_ack pl pr v h2]
 by_cases e : ((u - 1 : Nat) : Int) + 1 = v
 ·exfalso
  have h4 := h.acks (u - 1) (by omega)
  rw [e, hu4, h.k3] at h4
  have h5 := cnt3_say pl pr v 1 h1 h.k3 h3 v
  rw [if_pos ⟨rfl, rfl⟩] at h5
  have h6 := cnt3_bd (sayP pl pr v 1) v
  omega
 ·rw [if_neg e]
  simpa [ackP, sayP] using hu4
theorem LvSt.ack {pl : PlD} {M : Nat} {pins : List Int} (h : LvSt pl M pins) (pr v : Int) (hs : sayE pl pr v = 0) : LvSt (ackP pl pr v) M pins := by
 obtain ⟨h1, h2, h3⟩ := sayE_zero hs
 have hv' : 1 ≤ v ∧ v ≤ (pl.V.length : Int) := by unfold wasM at h2; simpa using h2
 have e : (ackP pl pr v).V.length = pl.V.length := by simp [ackP]
 have hm := madeAt_ack pl pr v h2
 have hl := live_ack h pr v hs
 have hb : ∀ i, (madeAt (ackP pl pr v) i).b = (madeAt pl i).b := fun i => by rw [hm]; split <;> rfl
 have hpn : ∀ i, (madeAt (ackP pl pr v) i).pins = (madeAt pl i).pins := fun i => by rw [hm]; split <;> rfl
 refine ⟨h.k3, by rw [e]; exact h.len, fun i hi => ?_, fun q u hu => ?_, fun i hi hl2 => ?_, fun i hi hp => ?_, fun i hi => ?_, fun u hu => ?_⟩
 ·rw [e] at hi
  have h5 := cnt3_say pl pr v 1 h1 h.k3 h3 ((i : Int) + 1)
  have h6 : cnt3 (ackP pl pr v) ((i : Int) + 1) = cnt3 (sayP pl pr v 1) ((i : Int) + 1) := rfl
  rw [h6, h5, hm]
  by_cases hiv : (i : Int) + 1 = v
  ·rw [if_pos hiv, if_pos ⟨hiv, rfl⟩]
   show (madeAt pl i).acks + 1 = _
   rw [h.acks i hi]
  ·rw [if_neg hiv, if_neg (fun hh => hiv hh.1)]
   exact h.acks i hi
 ·rw [e] at hu
  show (if (q, u) = (pr, v) then (1 : Int) else pl.said (q, u)) = 0
  rw [if_neg (by simp only [Prod.mk.injEq]; omega)]
  exact h.out q u hu
 ·rw [hb]
  exact h.b i (by omega) (by omega)
 ·rw [hb]
  rw [hpn] at hp
  exact h.pin i (by omega) hp
 ·rw [hpn]
  exact h.bd i (by omega)
 ·obtain ⟨i, hi, rfl, hp⟩ := h.pins u hu
  exact ⟨i, by omega, rfl, by rw [hpn]; exact hp⟩
theorem LvSt.nack {pl : PlD} {M : Nat} {pins : List Int} (h : LvSt pl M pins) (pr v : Int) (hs : sayE pl pr v = 0) : LvSt (sayP pl pr v 2) M pins := by
 obtain ⟨h1, h2, h3⟩ := sayE_zero hs
 have hv' : 1 ≤ v ∧ v ≤ (pl.V.length : Int) := by unfold wasM at h2; simpa using h2
 refine ⟨h.k3, h.len, fun i hi => ?_, fun q u hu => ?_, h.b, h.pin, h.bd, h.pins⟩
 ·have h5 := cnt3_say pl pr v 2 h1 h.k3 h3 ((i : Int) + 1)
  rw [h5, if_neg (by simp)]
  exact h.acks i hi
 ·show (if (q, u) = (pr, v) then (2 : Int) else pl.said (q, u)) = 0
  have hu' : u > (pl.V.length : Int) := hu
  rw [if_neg (by simp only [Prod.mk.injEq]; omega)]
  exact h.out q u hu
theorem live_set (pl : PlD) (i : Nat) (m : MadeD) (hm : m.acks = (madeAt pl i).acks) : liveN { pl with V := pl.V.set i m } = liveN pl := by
 unfold liveN
 simp only [List.length_set]
 refine gtN_congr _ fun v h1 h2 => ?_
 unfold ackAt
 simp only [List.getD_eq_getElem?_getD, List.getElem?_set]
 split
 ·rename_i e
  rw [if_pos (by omega)]
  show decide (m.acks = pl.k) = _
  rw [hm, e]
  rfl
 ·rfl
theorem madeAt_pin (pl : PlD) (v d : Int) (h1 : 1 ≤ v) (h2 : v ≤ pl.V.length) (i : Nat) : madeAt (pinP pl v d) i = if (i : Int) + 1 = v then pinM (madeAt pl i) d else madeAt pl i := by
 unfold pinP
 show ({ pl with V := pl.V.set (v.toNat - 1) (pinM (madeAt pl (v.toNat - 1)) d) } : PlD).V.getD i made0 = _
 simp only [List.getD_eq_getElem?_getD, List.getElem?_set]
 by_cases e : (i : Int) + 1 = v
 ·have e2 : v.toNat - 1 = i := by omega
  rw [if_pos e, if_pos e2, if_pos (by omega), e2]
  rfl
 ·rw [if_neg e, if_neg (by omega)]
  rfl
theorem live_pin (pl : PlD) (v d : Int) : liveN (pinP pl v d) = liveN pl := live_set pl _ _ rfl
theorem LvSt.pinV {pl : PlD} {M : Nat} {pins : List Int} (h : LvSt pl M pins) (v : Int) (hs : pinE pl v = 0) : LvSt (pinP pl v 1) (M + 1) (pins ++ [v]) := by
 have hv : v = (liveN pl : Int) ∧ v ≠ 0 := by
  unfold pinE at hs
  split at hs
  ·cases hs
  ·rename_i hh
   exact ⟨Classical.not_not.1 fun e => hh (.inr e), fun e => hh (.inl e)⟩
 have hle : liveN pl ≤ pl.V.length := gtN_le _ _
 have h1 : 1 ≤ v := by omega
 have h2 : v ≤ pl.V.length := by omega
 have e : (pinP pl v 1).V.length = pl.V.length := by simp [pinP]
 have hm := madeAt_pin pl v 1 h1 h2
 have hb : ∀ i, (madeAt (pinP pl v 1) i).b = (madeAt pl i).b := fun i => by rw [hm]; split <;> rfl
 have ha : ∀ i, (madeAt (pinP pl v 1) i).acks = (madeAt pl i).acks := fun i => by rw [hm]; split <;> rfl
 refine ⟨h.k3, by rw [e]; have := h.len; omega, fun i hi => ?_, fun q u hu => ?_, fun i hi hl => ?_, fun i hi hp => ?_, fun i hi => ?_, fun u hu => ?_⟩
 ·rw [ha]
  exact h.acks i (by omega)
 ·rw [e] at hu
  exact h.out q u hu
 ·rw [live_pin] at hl
  rw [hb]
  exact h.b i (by omega) hl
 ·rw [hb]
  rw [hm] at hp
  by_cases hiv : (i : Int) + 1 = v
  ·exact h.b i (by omega) (by omega)
  ·rw [if_neg hiv] at hp
   exact h.pin i (by omega) hp
 ·have hbd := h.bd i (by omega)
  rw [hm]
  split
  ·show 0 ≤ (madeAt pl i).pins + 1 ∧ (madeAt pl i).pins + 1 ≤ ((M + 1 : Nat) : Int)
   omega
  ·omega
 ·rcases List.mem_append.1 hu with hu | hu
  ·obtain ⟨i, hi, rfl, hp⟩ := h.pins u hu
   refine ⟨i, by omega, rfl, ?_⟩
   rw [hm]
   have hbd := h.bd i hi
   split
   ·show (madeAt pl i).pins + 1 ≠ 0
    omega
   ·exact hp
  ·obtain rfl : u = v := by simpa using hu
   refine ⟨u.toNat - 1, by omega, by omega, ?_⟩
   rw [hm, if_pos (by omega)]
   have hbd := h.bd (u.toNat - 1) (by omega)
   show (madeAt pl (u.toNat - 1)).pins + 1 ≠ 0
   omega
theorem LvSt.drop {pl : PlD} {M : Nat} {pins : List Int} (h : LvSt pl M pins) (t : Nat) (ht : t + 1 ≤ liveN pl ∨ t = 0) : LvSt (dropN pl t) M pins := by
 have e := dropN_len pl t
 refine ⟨h.k3, by rw [e]; exact h.len, fun i hi => ?_, fun q u hu => ?_, fun i hi hl => ?_, fun i hi hp => ?_, fun i hi => ?_, fun u hu => ?_⟩
 ·rw [e] at hi
  have : (madeAt (dropN pl t) i).acks = (madeAt pl i).acks := by
   rw [madeAt_drop pl t i hi]
   split
   ·exact dropM_acks _
   ·rfl
  rw [this]
  exact h.acks i hi
 ·rw [e] at hu
  exact h.out q u hu
 ·rw [e] at hi
  rw [live_drop] at hl
  rw [madeAt_drop pl t i hi, if_neg (by omega)]
  exact h.b i hi hl
 ·rw [e] at hi
  rw [madeAt_drop pl t i hi] at hp ⊢
  split
  ·rename_i hit
   rw [if_pos hit, dropM_pins] at hp
   unfold dropM
   rw [if_neg hp]
   exact h.pin i hi hp
  ·rename_i hit
   rw [if_neg hit] at hp
   exact h.pin i hi hp
 ·rw [e] at hi
  have : (madeAt (dropN pl t) i).pins = (madeAt pl i).pins := by
   rw [madeAt_drop pl t i hi]
   split
   ·exact dropM_pins _
   ·rfl
  rw [this]
  exact h.bd i hi
 ·obtain ⟨i, hi, rfl, hp⟩ := h.pins u hu
  refine ⟨i, by omega, rfl, ?_⟩
  rw [madeAt_drop pl t i hi]
  split
  ·rw [dropM_pins]
   exact hp
  ·exact hp
/-- what is dropped is elder than the live one, and not pinned -/
theorem LvSt.gone {pl : PlD} {M : Nat} {pins : List Int} (h : LvSt pl M pins) {x : Int} (hx : x ∈ goneN pl (liveN pl - 1)) : x < (liveN pl : Int) ∧ x ∉ pins := by
 obtain ⟨i, hi, rfl, hp⟩ := goneN_mem hx
 refine ⟨by omega, fun hm => ?_⟩
 obtain ⟨j, -, hj, hp2⟩ := h.pins _ hm
 have : i = j := by omega
 rw [← this] at hp2
 exact hp2 hp
end Go.Proofs.YtnnddjmdpplolaaGreatDoor
