/- Merged texts (PnN, PnQ). -/
import Derived.Test.YtkhebanpplokdaaGreatDoorZpj
import Derived.Test.YtkhebanpplokdaaGreatDoorZpe
namespace Go.Proofs.YtkhebanpplokdaaGreatDoor
open Go.ChangeShapes Go.WideShapes Go.ChangeAt Go.RowKit Go.Lib Go.Shelf Go.Maps
/-- a block that a plane's methods may write: from B on, and of no other type than theirs -/
def PX (B : Nat) (w : World) (q : Nat) : Prop := B ≤ q ∧ ∀ cs t f, w.heap[q]? = some (.cells cs t f) → t = 115 ∨ t = 117
def KP (B : Nat) (w w' : World) : Prop := Keeps (PX B w) w w'
section
variable {B : Nat} {a b c w w' : World}
theorem KP.refl (B : Nat) (w : World) : KP B w w := Keeps.refl _ _
theorem KP.of_ext (e : Ext w w') : KP B w w' := Keeps.of_ext e
theorem KP.trans (h : KP B a b) (k : KP B b c) : KP B a c := by
 refine ⟨k.os.trans h.os, k.tape.trans h.tape, k.output.trans h.output, Nat.le_trans h.size k.size, fun i hi hx => ?_⟩
 have h1 := h.block i hi hx
 exact (k.block i (Nat.lt_of_lt_of_le hi h.size) (fun hb => hx ⟨hb.1, fun cs t f e => hb.2 cs t f (h1.trans e)⟩)).trans h1
theorem KP.own (k : KP B w w') {base size n : Nat} {e : TypeId} {v : Value} {xs : List Value} (h : w.ownsRow base e size v n xs) (h1 : e ≠ 115) (h2 : e ≠ 117) : w'.ownsRow base e size v n xs :=
 owns_keeps h k fun g hg hx => by
  obtain ⟨cs, fz, hc⟩ := ownsRow_kind h g hg
  rcases hx.2 _ _ _ hc with e1 | e1
  ·exact h1 e1
  ·exact h2 e1
theorem KP.conf (k : KP B w w') {C : Nat} {c : ConfD} (ho : ConfOwn C w c) : ConfOwn C w' c :=
 ⟨k.own ho.s (by decide) (by decide), fun s hs => k.own (ho.k s hs) (by decide) (by decide), k.own ho.e (by decide) (by decide), k.own ho.r (by decide) (by decide), fun r hr => ⟨k.own (ho.rr r hr).1 (by decide) (by decide), k.own (ho.rr r hr).2.1 (by decide) (by decide), k.own (ho.rr r hr).2.2.1 (by decide) (by decide), k.own (ho.rr r hr).2.2.2 (by decide) (by decide)⟩, k.own ho.t (by decide) (by decide)⟩
theorem KP.boxC (k : KP B w w') {g : Nat} {c : ConfD} (h : BoxC w g c) : BoxC w' g c :=
 (k.block g h.lt (fun hx => by rcases hx.2 _ _ _ h with e1 | e1 <;> exact absurd e1 (by decide))).trans h
theorem KP.ext {W : World} (k : KP B w w') (h : Ext W w) (hB : W.heap.size ≤ B) : Ext W w' := Keeps.ext h k fun _ hq => Nat.le_trans hB hq.1
theorem KP.below (k : KP B w w') (hB : B ≤ w.heap.size) : Below B w w' := Keeps.below k hB fun _ hq => hq.1
variable {p bm : Nat} {vv : Value} {N : Nat} {pl : PlD}
theorem PlaneIs.kp (h : PlaneIs B w p bm vv N pl) (k : Keeps (fun q => q = p ∨ q = bm ∨ vv.ownBlock = some q) w w') : KP B w w' := by
 refine k.mono fun q hq => ?_
 rcases hq with rfl | rfl | hq
 ·refine ⟨h.hp, fun cs t f e => ?_⟩
  rw [h.box] at e
  cases e
  exact .inl rfl
 ·refine ⟨h.hm, fun cs t f e => ?_⟩
  obtain ⟨n, -, hs⟩ := h.sm
  obtain ⟨es, cc, h1⟩ := hs.block
  rw [h1] at e
  cases e
 ·refine ⟨(h.row.lt q hq).1, fun cs t f e => ?_⟩
  exact .inr (owns_type h.row hq e)
/-- a plane; its row of versions out of sight -/
def Pl (B N : Nat) (w : World) (p bm : Nat) (pl : PlD) : Prop := ∃ vv, PlaneIs B w p bm vv N pl
theorem Pl.ext (h : Pl B N w p bm pl) (e : Ext w w') : Pl B N w' p bm pl := by
 obtain ⟨vv, h⟩ := h
 exact ⟨vv, h.ext e⟩
theorem Pl.mono {N' : Nat} (h : Pl B N w p bm pl) (hN : N ≤ N') : Pl B N' w p bm pl := by
 obtain ⟨vv, h⟩ := h
 exact ⟨vv, h.mono hN⟩
theorem Pl.lt (h : Pl B N w p bm pl) : p < w.heap.size := by
 obtain ⟨vv, h⟩ := h
 exact h.lt
theorem Pl.ver (h : Pl B N w p bm pl) (i : Nat) (hi : i < pl.V.length) (b : Nat) (hb : pl.V[i].b = some b) : w.cell? ⟨b, 0, none⟩ = some (.int .i64 ((i : Int) + 1)) := by
 obtain ⟨vv, h⟩ := h
 exact (h.ver i hi b hb).1
theorem pl_publish (h : Pl B N w p bm pl) (B' : Nat) (c : ConfD) (ho : ConfOwn B' w c) (hB' : B' ≤ w.heap.size) (hf : ConfFit c) (hl : c.E.length ≤ 19) (hr : chkC c = 0) (hm : MaxV w) (h50 : pl.V.length < 50) (hB : B ≤ w.heap.size) :
  Calls Tryz.prog 14 #[.pointer (some ⟨p, 0, none⟩), c.val] w fun e w' => e = .returned (.tuple #[.int .i64 ((pl.V.length : Int) + 1), .int .i64 0]) ∧ (∃ b, Pl B N w' p bm (pubP pl b)) ∧ KP B w w' := by
 obtain ⟨vv, h⟩ := h
 refine (publish_any h B' c ho hB' hf hl hr hm h50 hB).mono ?_
 rintro e w' ⟨rfl, b, vv', w1, B2, -, h1, -, hp, hk, -⟩
 refine ⟨rfl, ⟨b, vv', hp⟩, (KP.of_ext h1).trans ((h.ext h1).kp (hk.mono fun q hq => ?_))⟩
 rcases hq with hq | hq
 ·exact .inl hq
 ·exact .inr (.inr hq)
theorem pl_ack (h : Pl B N w p bm pl) (pr v : Int) (hI : I64 pr ∧ I64 v) (hN : N < 1000000) (hak : ∀ m ∈ pl.V, 0 ≤ m.acks ∧ m.acks ≤ 1000000) :
  Calls Tryz.prog 20 #[.pointer (some ⟨p, 0, none⟩), .int .i64 pr, .int .i64 v] w fun e w' => e = .returned (.int .i64 (sayE pl pr v)) ∧ Pl B (N + 1) w' p bm (if sayE pl pr v = 0 then ackP pl pr v else pl) ∧ KP B w w' := by
 obtain ⟨vv, h⟩ := h
 refine (ack_any h pr v hI hN hak).mono ?_
 rintro e w' ⟨rfl, ⟨hne, E⟩ | ⟨he, hk, hp⟩⟩
 ·rw [if_neg hne]
  exact ⟨rfl, ⟨vv, (h.ext E).mono (Nat.le_succ N)⟩, KP.of_ext E⟩
 ·rw [if_pos he]
  exact ⟨rfl, ⟨vv, hp⟩, h.kp (hk.mono fun q hq => .inr hq)⟩
theorem pl_nack (h : Pl B N w p bm pl) (pr v : Int) (hI : I64 pr ∧ I64 v) (hN : N < 1000000) :
  Calls Tryz.prog 46 #[.pointer (some ⟨p, 0, none⟩), .int .i64 pr, .int .i64 v] w fun e w' => e = .returned (.int .i64 (sayE pl pr v)) ∧ Pl B (N + 1) w' p bm (if sayE pl pr v = 0 then sayP pl pr v 2 else pl) ∧ KP B w w' := by
 obtain ⟨vv, h⟩ := h
 refine (nack_any h pr v hI hN).mono ?_
 rintro e w' ⟨rfl, ⟨hne, E⟩ | ⟨he, hk, hp⟩⟩
 ·rw [if_neg hne]
  exact ⟨rfl, ⟨vv, (h.ext E).mono (Nat.le_succ N)⟩, KP.of_ext E⟩
 ·rw [if_pos he]
  exact ⟨rfl, ⟨vv, hp⟩, h.kp (hk.mono fun q hq => .inr (.inl hq))⟩
theorem pl_live (h : Pl B N w p bm pl) : Calls Tryz.prog 21 #[.pointer (some ⟨p, 0, none⟩)] w fun e w' => e = .returned (.int .i64 (liveN pl : Nat)) ∧ Ext w w' := by
 obtain ⟨vv, h⟩ := h
 exact live_any h
theorem pl_next (h : Pl B N w p bm pl) (pr : Int) (hpr : I64 pr) :
  Calls Tryz.prog 19 #[.pointer (some ⟨p, 0, none⟩), .int .i64 pr] w fun e w' => e = .returned (.tuple #[ptrO (nextS pl pr), .bool (nextS pl pr).isSome]) ∧ Ext w w' := by
 obtain ⟨vv, h⟩ := h
 exact nextP_any h pr hpr
theorem pl_new (k : Int) (w : World) (hk : 0 ≤ k) :
  Calls Tryz.prog 13 #[.int .i64 k] w fun e w' => ∃ p bm, e = .returned (.pointer (some ⟨p, 0, none⟩)) ∧ Pl w.heap.size 0 w' p bm ⟨k, [], fun _ => 0⟩ ∧ Ext w w' := (planeNew_any k w hk).mono fun e w' => by
 rintro ⟨p, bm, h1, h2, h3⟩
 exact ⟨p, bm, h1, ⟨_, h2⟩, h3⟩
end
/-! ## two planes -/
section
variable {B : Nat} {w w' : World} {p bm q bn : Nat} {va vb : Value} {N : Nat} {pa pb : PlD}
end
end Go.Proofs.YtkhebanpplokdaaGreatDoor
namespace Go.Proofs.YtkhebanpplokdaaGreatDoor
open Go.ChangeShapes Go.WideShapes Go.ChangeAt Go.RowKit Go.Lib Go.Shelf Go.Maps
def madeAt (p : PlD) (i : Nat) : MadeD := p.V.getD i made0
theorem madeAt_eq (p : PlD) {i : Nat} (hi : i < p.V.length) : madeAt p i = p.V[i] := by
 unfold madeAt
 rw [List.getD_eq_getElem?_getD, List.getElem?_eq_getElem hi]
 rfl
def pinE (p : PlD) (v : Int) : Int := if v = 0 ∨ v ≠ (liveN p : Int) then 17 else 0
def pinM (m : MadeD) (d : Int) : MadeD := ⟨m.b, m.acks, m.pins + d⟩
def pinP (p : PlD) (v d : Int) : PlD := { p with V := p.V.set (v.toNat - 1) (pinM (madeAt p (v.toNat - 1)) d) }
def unpE (p : PlD) (v : Int) : Int := if wasM p v = false then 17 else if (madeAt p (v.toNat - 1)).pins = 0 then 17 else 0
def dropM (m : MadeD) : MadeD := if m.pins = 0 then ⟨none, m.acks, m.pins⟩ else m
/-- the first t versions were asked whether they may be dropped -/
def dropN (p : PlD) (t : Nat) : PlD := { p with V := p.V.mapIdx fun i m => if i < t then dropM m else m }
def mayDrop (m : MadeD) : Bool := m.b.isSome && m.pins == 0
def goneN (p : PlD) (t : Nat) : List Int := ((List.range t).filter fun i => mayDrop (madeAt p i)).map fun i : Nat => (i : Int) + 1
theorem dropN_zero (p : PlD) : dropN p 0 = p := by
 obtain ⟨k, V, said⟩ := p
 unfold dropN
 simp only [Nat.not_lt_zero, if_false]
 congr 1
 refine List.ext_getElem (by simp) fun i h1 h2 => by simp
theorem dropN_len (p : PlD) (t : Nat) : (dropN p t).V.length = p.V.length := by simp [dropN]
theorem dropN_get (p : PlD) (t i : Nat) (hi : i < p.V.length) : (dropN p t).V[i]'(by rw [dropN_len]; exact hi) = if i < t then dropM p.V[i] else p.V[i] := by simp [dropN]
theorem madeAt_drop (p : PlD) (t i : Nat) (hi : i < p.V.length) : madeAt (dropN p t) i = if i < t then dropM (madeAt p i) else madeAt p i := by
 rw [madeAt_eq (dropN p t) (by rw [dropN_len]; exact hi), dropN_get p t i hi, madeAt_eq p hi]
theorem dropM_acks (m : MadeD) : (dropM m).acks = m.acks := by unfold dropM; split <;> rfl
theorem dropM_pins (m : MadeD) : (dropM m).pins = m.pins := by unfold dropM; split <;> rfl
theorem dropM_not (m : MadeD) (h : mayDrop m = false) : dropM m = m := by
 obtain ⟨b, a, n⟩ := m
 unfold mayDrop at h
 unfold dropM
 simp only at h ⊢
 split
 ·rename_i hn
  subst hn
  cases b with
  | none => rfl
  | some b => simp at h
 ·rfl
theorem dropN_succ (p : PlD) (t : Nat) (ht : t < p.V.length) : dropN p (t + 1) = { dropN p t with V := (dropN p t).V.set t (dropM (madeAt p t)) } := by
 obtain ⟨k, V, said⟩ := p
 unfold dropN
 simp only
 congr 1
 refine List.ext_getElem (by simp) fun i h1 h2 => ?_
 have hi : i < V.length := by simpa using h1
 rw [List.getElem_set]
 simp only [List.getElem_mapIdx]
 by_cases e : t = i
 ·subst e
  rw [if_pos rfl, if_pos (by omega), madeAt_eq _ ht]
 ·rw [if_neg e]
  by_cases h : i < t
  ·rw [if_pos h, if_pos (by omega)]
  ·rw [if_neg h, if_neg (by omega)]
theorem dropN_same (p : PlD) (t : Nat) (ht : t < p.V.length) (h : mayDrop (madeAt p t) = false) : dropN p (t + 1) = dropN p t := by
 rw [dropN_succ p t ht, dropM_not _ h]
 obtain ⟨k, V, said⟩ := p
 unfold dropN
 simp only
 congr 1
 refine List.ext_getElem (by simp) fun i h1 h2 => ?_
 rw [List.getElem_set]
 split
 ·rename_i e
  subst e
  rw [madeAt_eq _ ht]
  simp
 ·rfl
theorem goneN_succ (p : PlD) (t : Nat) : goneN p (t + 1) = if mayDrop (madeAt p t) = true then goneN p t ++ [(t : Int) + 1] else goneN p t := by
 unfold goneN
 rw [List.range_succ, List.filter_append, List.map_append]
 by_cases h : mayDrop (madeAt p t) = true
 ·rw [if_pos h]
  simp [h]
 ·rw [if_neg h]
  simp [h]
theorem goneN_len (p : PlD) : ∀ t, (goneN p t).length ≤ t := fun t => by
 unfold goneN
 rw [List.length_map]
 exact Nat.le_trans (List.length_filter_le _ _) (by simp)
theorem ackAt_made (p : PlD) (v : Nat) : ackAt p v = decide ((madeAt p (v - 1)).acks = p.k) := rfl
theorem live_drop (p : PlD) (t : Nat) : liveN (dropN p t) = liveN p := by
 unfold liveN
 rw [dropN_len]
 refine gtN_congr _ fun v h1 h2 => ?_
 rw [ackAt_made, ackAt_made, madeAt_drop p t (v - 1) (by omega)]
 split
 ·rw [dropM_acks]
  rfl
 ·rfl
/-! ## PlaneLive -/
theorem madeAt_pub (pl : PlD) (b i : Nat) : madeAt (pubP pl b) i = if i < pl.V.length then madeAt pl i else if i = pl.V.length then ⟨some b, 0, 0⟩ else made0 := by
 unfold madeAt pubP
 simp only [List.getD_eq_getElem?_getD, List.getElem?_append]
 split
 ·rfl
 ·split
  ·rename_i e
   rw [e]
   simp
  ·rename_i h1 h2
   have : ([⟨some b, 0, 0⟩] : List MadeD)[i - pl.V.length]? = none := by
    rw [List.getElem?_eq_none]
    simp
    omega
   rw [this]
   rfl
theorem sayE_zero {pl : PlD} {pr v : Int} (h : sayE pl pr v = 0) : isPr pl pr = true ∧ wasM pl v = true ∧ pl.said (pr, v) = 0 := by
 unfold sayE at h
 cases h1 : isPr pl pr <;> rw [h1] at h
 ·simp at h
 ·cases h2 : wasM pl v <;> rw [h2] at h
  ·simp at h
  ·refine ⟨rfl, rfl, ?_⟩
   by_cases h3 : pl.said (pr, v) = 0
   ·exact h3
   ·simp [h3] at h
theorem madeAt_ack (pl : PlD) (pr v : Int) (hv : wasM pl v = true) (i : Nat) : madeAt (ackP pl pr v) i = if (i : Int) + 1 = v then upM (madeAt pl i) else madeAt pl i := by
 have hv' : 1 ≤ v ∧ v ≤ (pl.V.length : Int) := by unfold wasM at hv; simpa using hv
 unfold madeAt ackP
 simp only [List.getD_eq_getElem?_getD, List.getElem?_set]
 by_cases e : (i : Int) + 1 = v
 ·have e2 : v.toNat - 1 = i := by omega
  rw [if_pos e, if_pos e2, if_pos (by omega), e2]
  rfl
 ·rw [if_neg e, if_neg (by omega)]
theorem madeAt_pin (pl : PlD) (v d : Int) (h1 : 1 ≤ v) (h2 : v ≤ pl.V.length) (i : Nat) : madeAt (pinP pl v d) i = if (i : Int) + 1 = v then pinM (madeAt pl i) d else madeAt pl i := by
 unfold pinP
 show ({ pl with V := pl.V.set (v.toNat - 1) (pinM (madeAt pl (v.toNat - 1)) d) } : PlD).V.getD i made0 = _
 simp only [List.getD_eq_getElem?_getD, List.getElem?_set]
 by_cases e : (i : Int) + 1 = v
 ·have e2 : v.toNat - 1 = i := by omega
  rw [if_pos e, if_pos e2, if_pos (by omega), e2]
  rfl
 ·rw [if_neg e, if_neg (by omega)]
  rfl
end Go.Proofs.YtkhebanpplokdaaGreatDoor
