/- Merged texts (PnL, PnM, PnN, PnQ). -/
import Derived.Test.YtkhebanpplokdaaGreatDoorZpj
import Derived.Test.YtkhebanpplokdaaGreatDoorZpe

/- Law 17's says. -/
namespace Go.Proofs.YtkhebanpplokdaaGreatDoor
open Go.ChangeShapes Go.WideShapes Go.ChangeAt Go.RowKit Go.Lib Go.Shelf Go.Maps
/-- a proxy says what is told of a place, or nothing -/
def saysP (pl : PlD) (j : Nat) (x : Int) : PlD := if x = 1 then ackP pl ((j % 3 : Nat) : Int) ((j / 3 + 1 : Nat) : Int) else if x = 2 then sayP pl ((j % 3 : Nat) : Int) ((j / 3 + 1 : Nat) : Int) 2 else pl
end Go.Proofs.YtkhebanpplokdaaGreatDoor

/- PlaneRow, in plain Lean: what a plane is when some places were told. -/
namespace Go.Proofs.YtkhebanpplokdaaGreatDoor
open Go.ChangeShapes Go.WideShapes Go.ChangeAt Go.RowKit Go.Lib Go.Shelf Go.Maps
structure RowSt (k : Nat) (l : List Int) (D : Nat → Bool) (pl : PlD) : Prop where
 k3 : pl.k = 3
 len : pl.V.length = k
 acks : ∀ i, i < k → (pl.V.getD i made0).acks = acksD l D i
 said : ∀ x, pl.said x = saidD k l D x
theorem RowSt.bd {k : Nat} {l : List Int} {D : Nat → Bool} {pl : PlD} (h : RowSt k l D pl) : ∀ m ∈ pl.V, 0 ≤ m.acks ∧ m.acks ≤ 1000000 := fun m hm => by
 obtain ⟨i, hi, rfl⟩ := List.getElem_of_mem hm
 have h1 := h.acks i (by rw [← h.len]; exact hi)
 rw [List.getD_eq_getElem?_getD, List.getElem?_eq_getElem hi] at h1
 have h2 := acksD_bd l D i
 have h3 : pl.V[i].acks = acksD l D i := h1
 omega
theorem RowSt.step {k : Nat} {l : List Int} {D : Nat → Bool} {pl : PlD} (h : RowSt k l D pl) (j : Nat) (hj : j < 3 * k) (hd : D j = false) (hx : l.getD j 0 = 0 ∨ l.getD j 0 = 1 ∨ l.getD j 0 = 2) : RowSt k l (addD D j) (saysP pl j (l.getD j 0)) := by
 have hf := saidD_fresh k l D j hd
 have e1 : ((j / 3 + 1 : Nat) : Int).toNat - 1 = j / 3 := by omega
 unfold saysP
 rcases hx with e | e | e
 ·rw [e, if_neg (by decide), if_neg (by decide)]
  refine ⟨h.k3, h.len, fun i hi => ?_, fun x => ?_⟩
  ·rw [h.acks i hi, acksD_add l D j i hd, e, if_neg (by simp)]
  ·rw [h.said x, saidD_add k l D j hj x, e]
   split
   ·rename_i hh
    rw [hh, hf]
   ·rfl
 ·rw [e, if_pos rfl]
  refine ⟨h.k3, by unfold ackP; simpa using h.len, fun i hi => ?_, fun x => ?_⟩
  ·rw [acksD_add l D j i hd, e]
   unfold ackP
   simp only [e1]
   have hl : j / 3 < pl.V.length := by rw [h.len]; omega
   have h1 := h.acks i hi
   by_cases hi3 : i = j / 3
   ·subst hi3
    rw [if_pos (by simp), ← h1]
    simp [List.getD_eq_getElem?_getD, hl, upM]
   ·rw [if_neg (fun hh => hi3 hh.1), ← h1]
    have hne : ¬ j / 3 = i := fun hh => hi3 hh.symm
    simp [List.getD_eq_getElem?_getD, List.getElem?_set, hne]
  ·rw [saidD_add k l D j hj x, e]
   show (if x = _ then (1 : Int) else pl.said x) = _
   rw [h.said x]
 ·rw [e, if_neg (by decide), if_pos rfl]
  refine ⟨h.k3, h.len, fun i hi => ?_, fun x => ?_⟩
  ·show (pl.V.getD i made0).acks = _
   rw [h.acks i hi, acksD_add l D j i hd, e, if_neg (by simp)]
  ·rw [saidD_add k l D j hj x, e]
   show (if x = _ then (2 : Int) else pl.said x) = _
   rw [h.said x]
end Go.Proofs.YtkhebanpplokdaaGreatDoor

/- What a plane's methods write, by type; the methods, with the row of versions out of sight. -/
namespace Go.Proofs.YtkhebanpplokdaaGreatDoor
open Go.ChangeShapes Go.WideShapes Go.ChangeAt Go.RowKit Go.Lib Go.Shelf Go.Maps
/-- a block that a plane's methods may write: from B on, and of no other type than theirs -/
def PX (B : Nat) (w : World) (q : Nat) : Prop := B ≤ q ∧ ∀ cs t f, w.heap[q]? = some (.cells cs t f) → t = 115 ∨ t = 117
def KP (B : Nat) (w w' : World) : Prop := Keeps (PX B w) w w'
section
variable {B : Nat} {a b c w w' : World}
theorem KP.refl (B : Nat) (w : World) : KP B w w := Keeps.refl _ _
theorem KP.of_ext (e : Ext w w') : KP B w w' := Keeps.of_ext e
theorem KP.trans (h : KP B a b) (k : KP B b c) : KP B a c := by
 refine ⟨k.os.trans h.os, k.tape.trans h.tape, k.output.trans h.output, Nat.le_trans h.size k.size, fun i hi hx => ?_⟩
 have h1 := h.block i hi hx
 exact (k.block i (Nat.lt_of_lt_of_le hi h.size) (fun hb => hx ⟨hb.1, fun cs t f e => hb.2 cs t f (h1.trans e)⟩)).trans h1
theorem KP.own (k : KP B w w') {base size n : Nat} {e : TypeId} {v : Value} {xs : List Value} (h : w.ownsRow base e size v n xs) (h1 : e ≠ 115) (h2 : e ≠ 117) : w'.ownsRow base e size v n xs :=
 owns_keeps h k fun g hg hx => by
  obtain ⟨cs, fz, hc⟩ := ownsRow_kind h g hg
  rcases hx.2 _ _ _ hc with e1 | e1
  ·exact h1 e1
  ·exact h2 e1
theorem KP.conf (k : KP B w w') {C : Nat} {c : ConfD} (ho : ConfOwn C w c) : ConfOwn C w' c :=
 ⟨k.own ho.s (by decide) (by decide), fun s hs => k.own (ho.k s hs) (by decide) (by decide), k.own ho.e (by decide) (by decide), k.own ho.r (by decide) (by decide), fun r hr => ⟨k.own (ho.rr r hr).1 (by decide) (by decide), k.own (ho.rr r hr).2.1 (by decide) (by decide), k.own (ho.rr r hr).2.2.1 (by decide) (by decide), k.own (ho.rr r hr).2.2.2 (by decide) (by decide)⟩, k.own ho.t (by decide) (by decide)⟩
theorem KP.boxC (k : KP B w w') {g : Nat} {c : ConfD} (h : BoxC w g c) : BoxC w' g c :=
 (k.block g h.lt (fun hx => by rcases hx.2 _ _ _ h with e1 | e1 <;> exact absurd e1 (by decide))).trans h
theorem KP.ext {W : World} (k : KP B w w') (h : Ext W w) (hB : W.heap.size ≤ B) : Ext W w' := Keeps.ext h k fun _ hq => Nat.le_trans hB hq.1
theorem KP.below (k : KP B w w') (hB : B ≤ w.heap.size) : Below B w w' := Keeps.below k hB fun _ hq => hq.1
variable {p bm : Nat} {vv : Value} {N : Nat} {pl : PlD}
theorem PlaneIs.kp (h : PlaneIs B w p bm vv N pl) (k : Keeps (fun q => q = p ∨ q = bm ∨ vv.ownBlock = some q) w w') : KP B w w' := by
 refine k.mono fun q hq => ?_
 rcases hq with rfl | rfl | hq
 ·refine ⟨h.hp, fun cs t f e => ?_⟩
  rw [h.box] at e
  cases e
  exact .inl rfl
 ·refine ⟨h.hm, fun cs t f e => ?_⟩
  obtain ⟨n, -, hs⟩ := h.sm
  obtain ⟨es, cc, h1⟩ := hs.block
  rw [h1] at e
  cases e
 ·refine ⟨(h.row.lt q hq).1, fun cs t f e => ?_⟩
  exact .inr (owns_type h.row hq e)
/-- a plane; its row of versions out of sight -/
def Pl (B N : Nat) (w : World) (p bm : Nat) (pl : PlD) : Prop := ∃ vv, PlaneIs B w p bm vv N pl
theorem Pl.ext (h : Pl B N w p bm pl) (e : Ext w w') : Pl B N w' p bm pl := by
 obtain ⟨vv, h⟩ := h
 exact ⟨vv, h.ext e⟩
theorem Pl.mono {N' : Nat} (h : Pl B N w p bm pl) (hN : N ≤ N') : Pl B N' w p bm pl := by
 obtain ⟨vv, h⟩ := h
 exact ⟨vv, h.mono hN⟩
theorem Pl.lt (h : Pl B N w p bm pl) : p < w.heap.size := by
 obtain ⟨vv, h⟩ := h
 exact h.lt
theorem Pl.ge (h : Pl B N w p bm pl) : B ≤ p := by
 obtain ⟨vv, h⟩ := h
 exact h.hp
theorem Pl.ver (h : Pl B N w p bm pl) (i : Nat) (hi : i < pl.V.length) (b : Nat) (hb : pl.V[i].b = some b) : w.cell? ⟨b, 0, none⟩ = some (.int .i64 ((i : Int) + 1)) := by
 obtain ⟨vv, h⟩ := h
 exact (h.ver i hi b hb).1
theorem pl_publish (h : Pl B N w p bm pl) (B' : Nat) (c : ConfD) (ho : ConfOwn B' w c) (hB' : B' ≤ w.heap.size) (hf : ConfFit c) (hl : c.E.length ≤ 19) (hr : chkC c = 0) (hm : MaxV w) (h50 : pl.V.length < 50) (hB : B ≤ w.heap.size) :
  Calls Tryz.prog 14 #[.pointer (some ⟨p, 0, none⟩), c.val] w fun e w' => e = .returned (.tuple #[.int .i64 ((pl.V.length : Int) + 1), .int .i64 0]) ∧ (∃ b, Pl B N w' p bm (pubP pl b)) ∧ KP B w w' := by
 obtain ⟨vv, h⟩ := h
 refine (publish_any h B' c ho hB' hf hl hr hm h50 hB).mono ?_
 rintro e w' ⟨rfl, b, vv', w1, B2, -, h1, -, hp, hk, -⟩
 refine ⟨rfl, ⟨b, vv', hp⟩, (KP.of_ext h1).trans ((h.ext h1).kp (hk.mono fun q hq => ?_))⟩
 rcases hq with hq | hq
 ·exact .inl hq
 ·exact .inr (.inr hq)
theorem pl_ack (h : Pl B N w p bm pl) (pr v : Int) (hI : I64 pr ∧ I64 v) (hN : N < 1000000) (hak : ∀ m ∈ pl.V, 0 ≤ m.acks ∧ m.acks ≤ 1000000) :
  Calls Tryz.prog 20 #[.pointer (some ⟨p, 0, none⟩), .int .i64 pr, .int .i64 v] w fun e w' => e = .returned (.int .i64 (sayE pl pr v)) ∧ Pl B (N + 1) w' p bm (if sayE pl pr v = 0 then ackP pl pr v else pl) ∧ KP B w w' := by
 obtain ⟨vv, h⟩ := h
 refine (ack_any h pr v hI hN hak).mono ?_
 rintro e w' ⟨rfl, ⟨hne, E⟩ | ⟨he, hk, hp⟩⟩
 ·rw [if_neg hne]
  exact ⟨rfl, ⟨vv, (h.ext E).mono (Nat.le_succ N)⟩, KP.of_ext E⟩
 ·rw [if_pos he]
  exact ⟨rfl, ⟨vv, hp⟩, h.kp (hk.mono fun q hq => .inr hq)⟩
theorem pl_nack (h : Pl B N w p bm pl) (pr v : Int) (hI : I64 pr ∧ I64 v) (hN : N < 1000000) :
  Calls Tryz.prog 46 #[.pointer (some ⟨p, 0, none⟩), .int .i64 pr, .int .i64 v] w fun e w' => e = .returned (.int .i64 (sayE pl pr v)) ∧ Pl B (N + 1) w' p bm (if sayE pl pr v = 0 then sayP pl pr v 2 else pl) ∧ KP B w w' := by
 obtain ⟨vv, h⟩ := h
 refine (nack_any h pr v hI hN).mono ?_
 rintro e w' ⟨rfl, ⟨hne, E⟩ | ⟨he, hk, hp⟩⟩
 ·rw [if_neg hne]
  exact ⟨rfl, ⟨vv, (h.ext E).mono (Nat.le_succ N)⟩, KP.of_ext E⟩
 ·rw [if_pos he]
  exact ⟨rfl, ⟨vv, hp⟩, h.kp (hk.mono fun q hq => .inr (.inl hq))⟩
theorem pl_live (h : Pl B N w p bm pl) : Calls Tryz.prog 21 #[.pointer (some ⟨p, 0, none⟩)] w fun e w' => e = .returned (.int .i64 (liveN pl : Nat)) ∧ Ext w w' := by
 obtain ⟨vv, h⟩ := h
 exact live_any h
theorem pl_next (h : Pl B N w p bm pl) (pr : Int) (hpr : I64 pr) :
  Calls Tryz.prog 19 #[.pointer (some ⟨p, 0, none⟩), .int .i64 pr] w fun e w' => e = .returned (.tuple #[ptrO (nextS pl pr), .bool (nextS pl pr).isSome]) ∧ Ext w w' := by
 obtain ⟨vv, h⟩ := h
 exact nextP_any h pr hpr
theorem pl_new (k : Int) (w : World) (hk : 0 ≤ k) :
  Calls Tryz.prog 13 #[.int .i64 k] w fun e w' => ∃ p bm, e = .returned (.pointer (some ⟨p, 0, none⟩)) ∧ Pl w.heap.size 0 w' p bm ⟨k, [], fun _ => 0⟩ ∧ Ext w w' := (planeNew_any k w hk).mono fun e w' => by
 rintro ⟨p, bm, h1, h2, h3⟩
 exact ⟨p, bm, h1, ⟨_, h2⟩, h3⟩
end
/-! ## two planes -/
/-- two planes; the second one was made behind the first one -/
structure TwoPl (B : Nat) (w : World) (p bm q bn : Nat) (va vb : Value) (N : Nat) (pa pb : PlD) : Prop where
 a : PlaneIs B w p bm va N pa
 b : PlaneIs B w q bn vb N pb
 np : p ≠ q
 nm : bm ≠ bn
 nv : ∀ g, va.ownBlock = some g → vb.ownBlock ≠ some g
section
variable {B : Nat} {w w' : World} {p bm q bn : Nat} {va vb : Value} {N : Nat} {pa pb : PlD}
theorem TwoPl.swap (h : TwoPl B w p bm q bn va vb N pa pb) : TwoPl B w q bn p bm vb va N pb pa := ⟨h.b, h.a, fun e => h.np e.symm, fun e => h.nm e.symm, fun g h1 h2 => h.nv g h2 h1⟩
theorem TwoPl.ext (h : TwoPl B w p bm q bn va vb N pa pb) (e : Ext w w') : TwoPl B w' p bm q bn va vb N pa pb := ⟨h.a.ext e, h.b.ext e, h.np, h.nm, h.nv⟩
/-- what the first plane's methods write is none of the second one's -/
theorem TwoPl.far (h : TwoPl B w p bm q bn va vb N pa pb) (k : Keeps (fun g => g = p ∨ g = bm ∨ va.ownBlock = some g) w w') : PlaneIs B w' q bn vb N pb := by
 obtain ⟨n, -, hs⟩ := h.a.sm
 obtain ⟨es, cc, h1⟩ := hs.block
 obtain ⟨n', -, hs'⟩ := h.b.sm
 obtain ⟨es', cc', h1'⟩ := hs'.block
 refine h.b.keeps k ?_ ?_ ?_ ?_
 ·rintro (e | e | e)
  ·exact h.np e.symm
  ·have h2 := h.b.box
   rw [e, h1] at h2
   cases h2
  ·exact absurd (owns_type h.a.row e h.b.box) (by decide)
 ·rintro (e | e | e)
  ·have h2 := h.a.box
   rw [← e, h1'] at h2
   cases h2
  ·exact h.nm e.symm
  ·obtain ⟨cs, fz, h2⟩ := ownsRow_kind h.a.row bn e
   rw [h1'] at h2
   cases h2
 ·intro g hg
  obtain ⟨cs, fz, h2⟩ := ownsRow_kind h.b.row g hg
  rintro (e | e | e)
  ·have h3 := h.a.box
   rw [← e, h2] at h3
   cases h3
  ·rw [e, h1] at h2
   cases h2
  ·exact h.nv g e hg
 ·rintro g (e | e | e) cs f h2
  ·rw [e, h.a.box] at h2
   cases h2
  ·rw [e, h1] at h2
   cases h2
  ·exact absurd (owns_type h.a.row e h2) (by decide)
/-- a word to the first plane -/
theorem TwoPl.said (h : TwoPl B w p bm q bn va vb N pa pb) {pl : PlD} (k : Keeps (fun g => g = bm ∨ va.ownBlock = some g) w w') (hp : PlaneIs B w' p bm va (N + 1) pl) : TwoPl B w' p bm q bn va vb (N + 1) pl pb :=
 ⟨hp, (h.far (k.mono fun _ hg => .inr hg)).mono (Nat.le_succ N), h.np, h.nm, h.nv⟩
theorem TwoPl.kp (h : TwoPl B w p bm q bn va vb N pa pb) (k : Keeps (fun g => g = bm ∨ va.ownBlock = some g) w w') : KP B w w' := h.a.kp (k.mono fun _ hg => .inr hg)
end
end Go.Proofs.YtkhebanpplokdaaGreatDoor

/- Pin, Unpin, Drop in plain Lean; PlaneLive's plain law. -/
namespace Go.Proofs.YtkhebanpplokdaaGreatDoor
open Go.ChangeShapes Go.WideShapes Go.ChangeAt Go.RowKit Go.Lib Go.Shelf Go.Maps
def madeAt (p : PlD) (i : Nat) : MadeD := p.V.getD i made0
theorem madeAt_eq (p : PlD) {i : Nat} (hi : i < p.V.length) : madeAt p i = p.V[i] := by
 unfold madeAt
 rw [List.getD_eq_getElem?_getD, List.getElem?_eq_getElem hi]
 rfl
def dropM (m : MadeD) : MadeD := if m.pins = 0 then ⟨none, m.acks, m.pins⟩ else m
/-- the first t versions were asked whether they may be dropped -/
def dropN (p : PlD) (t : Nat) : PlD := { p with V := p.V.mapIdx fun i m => if i < t then dropM m else m }
theorem dropN_len (p : PlD) (t : Nat) : (dropN p t).V.length = p.V.length := by simp [dropN]
theorem dropN_get (p : PlD) (t i : Nat) (hi : i < p.V.length) : (dropN p t).V[i]'(by rw [dropN_len]; exact hi) = if i < t then dropM p.V[i] else p.V[i] := by simp [dropN]
theorem madeAt_drop (p : PlD) (t i : Nat) (hi : i < p.V.length) : madeAt (dropN p t) i = if i < t then dropM (madeAt p i) else madeAt p i := by
 rw [madeAt_eq (dropN p t) (by rw [dropN_len]; exact hi), dropN_get p t i hi, madeAt_eq p hi]
theorem dropM_acks (m : MadeD) : (dropM m).acks = m.acks := by unfold dropM; split <;> rfl
theorem dropM_pins (m : MadeD) : (dropM m).pins = m.pins := by unfold dropM; split <;> rfl
theorem ackAt_made (p : PlD) (v : Nat) : ackAt p v = decide ((madeAt p (v - 1)).acks = p.k) := rfl
theorem live_drop (p : PlD) (t : Nat) : liveN (dropN p t) = liveN p := by
 unfold liveN
 rw [dropN_len]
 refine gtN_congr _ fun v h1 h2 => ?_
 rw [ackAt_made, ackAt_made, madeAt_drop p t (v - 1) (by omega)]
 split
 ·rw [dropM_acks]
  rfl
 ·rfl
theorem gtN_ge (Q : Nat → Bool) (v : Nat) (hq : Q v = true) : ∀ m, v ≤ m → v ≤ gtN Q m
 | 0, h => by omega
 | m + 1, h => by
  rw [gtN]
  split
  ·omega
  ·rename_i hn
   refine gtN_ge Q v hq m ?_
   by_cases e : v = m + 1
   ·subst e
    exact absurd hq hn
   ·omega
theorem gtN_is (P : Nat → Bool) : ∀ n, gtN P n = 0 ∨ (1 ≤ gtN P n ∧ gtN P n ≤ n ∧ P (gtN P n) = true)
 | 0 => .inl rfl
 | n + 1 => by
  unfold gtN
  split
  ·rename_i h
   exact .inr ⟨by omega, Nat.le_refl _, h⟩
  ·rcases gtN_is P n with h | ⟨h1, h2, h3⟩
   ·exact .inl h
   ·exact .inr ⟨h1, by omega, h3⟩
theorem gtN_mono {P Q : Nat → Bool} (n m : Nat) (hm : n ≤ m) (h : ∀ v, 1 ≤ v → v ≤ n → P v = true → Q v = true) : gtN P n ≤ gtN Q m := by
 rcases gtN_is P n with h0 | ⟨h1, h2, h3⟩
 ·omega
 ·exact gtN_ge Q _ (h _ h1 h2 h3) m (by omega)
/-! ## PlaneLive -/
def one1 (p : PlD) (pr v : Int) : Int := if p.said (pr, v) = 1 then 1 else 0
def cnt3 (p : PlD) (v : Int) : Int := one1 p 0 v + one1 p 1 v + one1 p 2 v
theorem one1_bd (p : PlD) (pr v : Int) : 0 ≤ one1 p pr v ∧ one1 p pr v ≤ 1 := by unfold one1; split <;> omega
theorem cnt3_bd (p : PlD) (v : Int) : 0 ≤ cnt3 p v ∧ cnt3 p v ≤ 3 := by
 have h1 := one1_bd p 0 v
 have h2 := one1_bd p 1 v
 have h3 := one1_bd p 2 v
 unfold cnt3
 omega
structure LvSt (pl : PlD) (M : Nat) (pins : List Int) : Prop where
 k3 : pl.k = 3
 len : pl.V.length ≤ M
 acks : ∀ i : Nat, i < pl.V.length → (madeAt pl i).acks = cnt3 pl ((i : Int) + 1)
 out : ∀ pr v : Int, (v : Int) > pl.V.length → pl.said (pr, v) = 0
 b : ∀ i : Nat, i < pl.V.length → liveN pl ≤ i + 1 → (madeAt pl i).b.isSome = true
 pin : ∀ i : Nat, i < pl.V.length → (madeAt pl i).pins ≠ 0 → (madeAt pl i).b.isSome = true
 bd : ∀ i : Nat, i < pl.V.length → 0 ≤ (madeAt pl i).pins ∧ (madeAt pl i).pins ≤ M
 pins : ∀ v ∈ pins, ∃ i : Nat, i < pl.V.length ∧ v = (i : Int) + 1 ∧ (madeAt pl i).pins ≠ 0
theorem LvSt.new (M : Nat) : LvSt ⟨3, [], fun _ => 0⟩ M [] :=
 ⟨rfl, Nat.zero_le _, fun i hi => absurd hi (by simp), fun _ _ _ => rfl, fun i hi => absurd hi (by simp), fun i hi => absurd hi (by simp), fun i hi => absurd hi (by simp), fun v hv => by cases hv⟩
theorem LvSt.mono {pl : PlD} {M M' : Nat} {pins : List Int} (h : LvSt pl M pins) (hM : M ≤ M') : LvSt pl M' pins :=
 ⟨h.k3, Nat.le_trans h.len hM, h.acks, h.out, h.b, h.pin, fun i hi => ⟨(h.bd i hi).1, by have := (h.bd i hi).2; omega⟩, h.pins⟩
theorem LvSt.pinned {pl : PlD} {M : Nat} {pins : List Int} (h : LvSt pl M pins) {v : Int} (hv : v ∈ pins) : (plSnap pl v).isSome = true := by
 obtain ⟨i, hi, rfl, hp⟩ := h.pins v hv
 unfold plSnap
 rw [if_pos (by unfold wasM; simp; omega)]
 have e : ((i : Int) + 1).toNat - 1 = i := by omega
 rw [e]
 exact h.pin i hi hp
theorem madeAt_pub (pl : PlD) (b i : Nat) : madeAt (pubP pl b) i = if i < pl.V.length then madeAt pl i else if i = pl.V.length then ⟨some b, 0, 0⟩ else made0 := by
 unfold madeAt pubP
 simp only [List.getD_eq_getElem?_getD, List.getElem?_append]
 split
 ·rfl
 ·split
  ·rename_i e
   rw [e]
   simp
  ·rename_i h1 h2
   have : ([⟨some b, 0, 0⟩] : List MadeD)[i - pl.V.length]? = none := by
    rw [List.getElem?_eq_none]
    simp
    omega
   rw [this]
   rfl
theorem live_pub (pl : PlD) (b : Nat) (hk : pl.k = 3) : liveN (pubP pl b) = liveN pl := by
 unfold liveN
 have e : (pubP pl b).V.length = pl.V.length + 1 := by simp [pubP]
 rw [e]
 have hn : ackAt (pubP pl b) (pl.V.length + 1) = false := by
  rw [ackAt_made, madeAt_pub, if_neg (by omega), if_pos (by omega)]
  show decide ((0 : Int) = pl.k) = false
  rw [hk]
  rfl
 show gtN _ (pl.V.length + 1) = _
 rw [show gtN (ackAt (pubP pl b)) (pl.V.length + 1) = gtN (ackAt (pubP pl b)) pl.V.length by
  rw [gtN, if_neg (by rw [hn]; decide)]]
 refine gtN_congr _ fun v h1 h2 => ?_
 rw [ackAt_made, ackAt_made, madeAt_pub, if_pos (by omega)]
 rfl
theorem LvSt.pub {pl : PlD} {M : Nat} {pins : List Int} (h : LvSt pl M pins) (b : Nat) : LvSt (pubP pl b) (M + 1) pins := by
 have e : (pubP pl b).V.length = pl.V.length + 1 := by simp [pubP]
 have hc : ∀ v, cnt3 (pubP pl b) v = cnt3 pl v := fun v => rfl
 refine ⟨h.k3, by have := h.len; omega, fun i hi => ?_, fun pr v hv => h.out pr v (by omega), fun i hi hl => ?_, fun i hi hp => ?_, fun i hi => ?_, fun v hv => ?_⟩
 ·rw [madeAt_pub, hc]
  by_cases hil : i < pl.V.length
  ·rw [if_pos hil]
   exact h.acks i hil
  ·rw [if_neg hil, if_pos (by omega)]
   unfold cnt3 one1
   rw [h.out _ _ (by omega), h.out _ _ (by omega), h.out _ _ (by omega)]
   rfl
 ·rw [live_pub pl b h.k3] at hl
  rw [madeAt_pub]
  by_cases hil : i < pl.V.length
  ·rw [if_pos hil]
   exact h.b i hil hl
  ·rw [if_neg hil, if_pos (by omega)]
   rfl
 ·rw [madeAt_pub] at hp ⊢
  by_cases hil : i < pl.V.length
  ·rw [if_pos hil] at hp ⊢
   exact h.pin i hil hp
  ·rw [if_neg hil, if_pos (by omega)]
   rfl
 ·rw [madeAt_pub]
  by_cases hil : i < pl.V.length
  ·rw [if_pos hil]
   have := h.bd i hil
   omega
  ·rw [if_neg hil, if_pos (by omega)]
   show (0 : Int) ≤ 0 ∧ (0 : Int) ≤ ((M + 1 : Nat) : Int)
   omega
 ·obtain ⟨i, hi, rfl, hp⟩ := h.pins v hv
  refine ⟨i, by omega, rfl, ?_⟩
  rw [madeAt_pub, if_pos hi]
  exact hp
theorem sayE_zero {pl : PlD} {pr v : Int} (h : sayE pl pr v = 0) : isPr pl pr = true ∧ wasM pl v = true ∧ pl.said (pr, v) = 0 := by
 unfold sayE at h
 cases h1 : isPr pl pr <;> rw [h1] at h
 ·simp at h
 ·cases h2 : wasM pl v <;> rw [h2] at h
  ·simp at h
  ·refine ⟨rfl, rfl, ?_⟩
   by_cases h3 : pl.said (pr, v) = 0
   ·exact h3
   ·simp [h3] at h
theorem madeAt_ack (pl : PlD) (pr v : Int) (hv : wasM pl v = true) (i : Nat) : madeAt (ackP pl pr v) i = if (i : Int) + 1 = v then upM (madeAt pl i) else madeAt pl i := by
 have hv' : 1 ≤ v ∧ v ≤ (pl.V.length : Int) := by unfold wasM at hv; simpa using hv
 unfold madeAt ackP
 simp only [List.getD_eq_getElem?_getD, List.getElem?_set]
 by_cases e : (i : Int) + 1 = v
 ·have e2 : v.toNat - 1 = i := by omega
  rw [if_pos e, if_pos e2, if_pos (by omega), e2]
  rfl
 ·rw [if_neg e, if_neg (by omega)]
theorem cnt3_say (pl : PlD) (pr v x : Int) (hp : isPr pl pr = true) (hk : pl.k = 3) (h0 : pl.said (pr, v) = 0) (u : Int) : cnt3 (sayP pl pr v x) u = if u = v ∧ x = 1 then cnt3 pl u + 1 else cnt3 pl u := by
 have hp' : 0 ≤ pr ∧ pr < 3 := by unfold isPr at hp; rw [hk] at hp; simpa using hp
 have ho : ∀ q : Int, one1 (sayP pl pr v x) q u = if q = pr ∧ u = v then (if x = 1 then 1 else 0) else one1 pl q u := fun q => by
  unfold one1 sayP
  simp only [Prod.mk.injEq]
  split
  ·rfl
  ·rfl
 have hz : u = v → one1 pl pr u = 0 := fun e => by
  unfold one1
  rw [e, h0]
  rfl
 unfold cnt3
 rw [ho, ho, ho]
 by_cases hu : u = v
 ·have hz := hz hu
  have h3 : pr = 0 ∨ pr = 1 ∨ pr = 2 := by omega
  by_cases hx : x = 1
  ·rcases h3 with rfl | rfl | rfl <;> simp [hu, hx] at hz ⊢ <;> omega
  ·rcases h3 with rfl | rfl | rfl <;> simp [hu, hx] at hz ⊢ <;> omega
 ·simp [hu]
/-- a version that all three have gets no further word of having it -/
theorem live_ack {pl : PlD} {M : Nat} {pins : List Int} (h : LvSt pl M pins) (pr v : Int) (hs : sayE pl pr v = 0) : liveN pl ≤ liveN (ackP pl pr v) := by
 obtain ⟨h1, h2, h3⟩ := sayE_zero hs
 unfold liveN
 refine gtN_mono _ _ (by simp [ackP]) fun u hu1 hu2 hu3 => ?_
 rw [ackAt_made] at hu3 ⊢
 have hu4 : (madeAt pl (u - 1)).acks = pl.k := by simpa using hu3
 rw [madeAt_ack pl pr v h2]
 by_cases e : ((u - 1 : Nat) : Int) + 1 = v
 ·exfalso
  have h4 := h.acks (u - 1) (by omega)
  rw [e, hu4, h.k3] at h4
  have h5 := cnt3_say pl pr v 1 h1 h.k3 h3 v
  rw [if_pos ⟨rfl, rfl⟩] at h5
  have h6 := cnt3_bd (sayP pl pr v 1) v
  omega
 ·rw [if_neg e]
  simpa [ackP, sayP] using hu4
theorem LvSt.ack {pl : PlD} {M : Nat} {pins : List Int} (h : LvSt pl M pins) (pr v : Int) (hs : sayE pl pr v = 0) : LvSt (ackP pl pr v) M pins := by
 obtain ⟨h1, h2, h3⟩ := sayE_zero hs
 have hv' : 1 ≤ v ∧ v ≤ (pl.V.length : Int) := by unfold wasM at h2; simpa using h2
 have e : (ackP pl pr v).V.length = pl.V.length := by simp [ackP]
 have hm := madeAt_ack pl pr v h2
 have hl := live_ack h pr v hs
 have hb : ∀ i, (madeAt (ackP pl pr v) i).b = (madeAt pl i).b := fun i => by rw [hm]; split <;> rfl
 have hpn : ∀ i, (madeAt (ackP pl pr v) i).pins = (madeAt pl i).pins := fun i => by rw [hm]; split <;> rfl
 refine ⟨h.k3, by rw [e]; exact h.len, fun i hi => ?_, fun q u hu => ?_, fun i hi hl2 => ?_, fun i hi hp => ?_, fun i hi => ?_, fun u hu => ?_⟩
 ·rw [e] at hi
  have h5 := cnt3_say pl pr v 1 h1 h.k3 h3 ((i : Int) + 1)
  have h6 : cnt3 (ackP pl pr v) ((i : Int) + 1) = cnt3 (sayP pl pr v 1) ((i : Int) + 1) := rfl
  rw [h6, h5, hm]
  by_cases hiv : (i : Int) + 1 = v
  ·rw [if_pos hiv, if_pos ⟨hiv, rfl⟩]
   show (madeAt pl i).acks + 1 = _
   rw [h.acks i hi]
  ·rw [if_neg hiv, if_neg (fun hh => hiv hh.1)]
   exact h.acks i hi
 ·rw [e] at hu
  show (if (q, u) = (pr, v) then (1 : Int) else pl.said (q, u)) = 0
  rw [if_neg (by simp only [Prod.mk.injEq]; omega)]
  exact h.out q u hu
 ·rw [hb]
  exact h.b i (by omega) (by omega)
 ·rw [hb]
  rw [hpn] at hp
  exact h.pin i (by omega) hp
 ·rw [hpn]
  exact h.bd i (by omega)
 ·obtain ⟨i, hi, rfl, hp⟩ := h.pins u hu
  exact ⟨i, by omega, rfl, by rw [hpn]; exact hp⟩
theorem LvSt.drop {pl : PlD} {M : Nat} {pins : List Int} (h : LvSt pl M pins) (t : Nat) (ht : t + 1 ≤ liveN pl ∨ t = 0) : LvSt (dropN pl t) M pins := by
 have e := dropN_len pl t
 refine ⟨h.k3, by rw [e]; exact h.len, fun i hi => ?_, fun q u hu => ?_, fun i hi hl => ?_, fun i hi hp => ?_, fun i hi => ?_, fun u hu => ?_⟩
 ·rw [e] at hi
  have : (madeAt (dropN pl t) i).acks = (madeAt pl i).acks := by
   rw [madeAt_drop pl t i hi]
   split
   ·exact dropM_acks _
   ·rfl
  rw [this]
  exact h.acks i hi
 ·rw [e] at hu
  exact h.out q u hu
 ·rw [e] at hi
  rw [live_drop] at hl
  rw [madeAt_drop pl t i hi, if_neg (by omega)]
  exact h.b i hi hl
 ·rw [e] at hi
  rw [madeAt_drop pl t i hi] at hp ⊢
  split
  ·rename_i hit
   rw [if_pos hit, dropM_pins] at hp
   unfold dropM
   rw [if_neg hp]
   exact h.pin i hi hp
  ·rename_i hit
   rw [if_neg hit] at hp
   exact h.pin i hi hp
 ·rw [e] at hi
  have : (madeAt (dropN pl t) i).pins = (madeAt pl i).pins := by
   rw [madeAt_drop pl t i hi]
   split
   ·exact dropM_pins _
   ·rfl
  rw [this]
  exact h.bd i hi
 ·obtain ⟨i, hi, rfl, hp⟩ := h.pins u hu
  refine ⟨i, by omega, rfl, ?_⟩
  rw [madeAt_drop pl t i hi]
  split
  ·rw [dropM_pins]
   exact hp
  ·exact hp
end Go.Proofs.YtkhebanpplokdaaGreatDoor
