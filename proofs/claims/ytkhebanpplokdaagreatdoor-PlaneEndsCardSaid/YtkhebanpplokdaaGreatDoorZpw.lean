/- Merged texts (RpL, RpJ). -/
import Derived.Test.YtkhebanpplokdaaGreatDoorZps
import Derived.Test.YtkhebanpplokdaaGreatDoorZy
namespace Go.Proofs.YtkhebanpplokdaaGreatDoor
open Go.ChangeShapes Go.WideShapes Go.ChangeAt Go.RowKit Go.Lib Go.Shelf Go.Maps
section
variable {B b : Nat} {w w' a c : World}
theorem KQ.trans (h : KQ B b w a) (k : KQ B b a c) : KQ B b w c := by
 refine ⟨k.os.trans h.os, k.tape.trans h.tape, k.output.trans h.output, Nat.le_trans h.size k.size, fun i hi hx => ?_⟩
 have h1 := h.block i hi hx
 refine (k.block i (Nat.lt_of_lt_of_le hi h.size) (fun hb => hx ?_)).trans h1
 rcases hb with hb | hb
 ·exact .inl ⟨hb.1, fun cs t f e => hb.2 cs t f (h1.trans e)⟩
 ·exact .inr hb
theorem KQ.of_kp (k : KP B w w') : KQ B b w w' := (KQ.refl B b w).kp k
def TyP (w : World) (b : Nat) : Prop := ∃ cs f, w.heap[b]? = some (.cells cs 55 f)
theorem BoxP.ty {k : Int} {lv : Value} (h : BoxP w b k lv) : TyP w b := ⟨_, _, h⟩
theorem KQ.own (k : KQ B b w w') (hq : TyP w b) {base size n : Nat} {e : TypeId} {v : Value} {xs : List Value} (h : w.ownsRow base e size v n xs) (h1 : e ≠ 115) (h2 : e ≠ 117) (h3 : e ≠ 55) : w'.ownsRow base e size v n xs :=
 owns_keeps h k fun g hg hx => by
  obtain ⟨cs, fz, hc⟩ := ownsRow_kind h g hg
  rcases hx with hx | rfl
  ·rcases hx.2 _ _ _ hc with e1 | e1
   ·exact h1 e1
   ·exact h2 e1
  ·obtain ⟨cs', f', h5⟩ := hq
   rw [hc] at h5
   cases h5
   exact h3 rfl
theorem KQ.conf (k : KQ B b w w') (hq : TyP w b) {C : Nat} {c : ConfD} (ho : ConfOwn C w c) : ConfOwn C w' c :=
 ⟨k.own hq ho.s (by decide) (by decide) (by decide), fun s hs => k.own hq (ho.k s hs) (by decide) (by decide) (by decide), k.own hq ho.e (by decide) (by decide) (by decide), k.own hq ho.r (by decide) (by decide) (by decide), fun r hr => ⟨k.own hq (ho.rr r hr).1 (by decide) (by decide) (by decide), k.own hq (ho.rr r hr).2.1 (by decide) (by decide) (by decide), k.own hq (ho.rr r hr).2.2.1 (by decide) (by decide) (by decide), k.own hq (ho.rr r hr).2.2.2 (by decide) (by decide) (by decide)⟩, k.own hq ho.t (by decide) (by decide) (by decide)⟩
theorem KQ.boxC (k : KQ B b w w') (hq : TyP w b) {g : Nat} {c : ConfD} (h : BoxC w g c) : BoxC w' g c :=
 (k.block g h.lt (fun hx => by
  rcases hx with hx | rfl
  ·rcases hx.2 _ _ _ h with e1 | e1 <;> exact absurd e1 (by decide)
  ·obtain ⟨cs', f', h5⟩ := hq
   unfold BoxC at h
   rw [h] at h5
   cases h5)).trans h
theorem KQ.ext {W : World} (k : KQ B b w w') (h : Ext W w) (hB : W.heap.size ≤ B) (hb : W.heap.size ≤ b) : Ext W w' := Keeps.ext h k fun _ hq => by
 rcases hq with hq | rfl
 ·exact Nat.le_trans hB hq.1
 ·exact hb
end
/-- the newest version, number n + 1, of block b, was taken by the first j proxies -/
structure Sett (n b : Nat) (j : Nat) (pl : PlD) : Prop where
 k3 : pl.k = 3
 len : pl.V.length = n + 1
 blk : (madeAt pl n).b = some b
 acks : (madeAt pl n).acks = (j : Int)
 said : ∀ pr : Int, pl.said (pr, (n : Int) + 1) = if 0 ≤ pr ∧ pr < (j : Int) then 1 else 0
 bd : ∀ m ∈ pl.V, 0 ≤ m.acks ∧ m.acks ≤ 1000 + (j : Int)
theorem Sett.big {n b j : Nat} {pl : PlD} (h : Sett n b j pl) (hj : j ≤ 3) : ∀ m ∈ pl.V, 0 ≤ m.acks ∧ m.acks ≤ 1000000 := fun m hm => by
 have := h.bd m hm
 omega
theorem Sett.new {pl : PlD} {L : List VerD} {M : Nat} (h : Both pl L M) (hk : pl.k = 3) (hM : M ≤ 1000) (b : Nat) : Sett L.length b 0 (pubP pl b) := by
 have hl := h.sim.len
 refine ⟨hk, by simp [pubP, hl], ?_, ?_, fun pr => ?_, fun m hm => ?_⟩
 ·rw [madeAt_pub, if_neg (by omega), if_pos (by omega)]
 ·rw [madeAt_pub, if_neg (by omega), if_pos (by omega)]
  rfl
 ·rw [if_neg (by omega)]
  exact h.sim.out pr _ (by omega)
 ·rcases List.mem_append.1 hm with hm | hm
  ·obtain ⟨i, hi, rfl⟩ := List.getElem_of_mem hm
   have hi' : i < L.length := by omega
   have e := h.sim.acks i hi'
   rw [madeAt_eq pl hi] at e
   have := (h.words _ (List.getElem_mem hi')).1
   rw [e]
   omega
  ·rw [List.mem_singleton.1 hm]
   exact ⟨Int.le_refl 0, by show (0 : Int) ≤ _; omega⟩
section
variable {n b j : Nat} {pl : PlD}
theorem Sett.next (h : Sett n b j pl) (hj : j < 3) : nextS pl (j : Int) = some b := by
 have hip : isPr pl (j : Int) = true := by
  unfold isPr
  rw [h.k3]
  simp
  omega
 have hs : pl.said ((j : Int), ((n + 1 : Nat) : Int)) = 0 := by
  have := h.said j
  rw [if_neg (by omega)] at this
  exact this
 have hn : nextN pl (j : Int) = n + 1 := by
  unfold nextN
  rw [h.len, gtN, if_pos (by simpa using hs)]
 have hh : hasN pl (j : Int) ≤ n := by
  unfold hasN
  rw [h.len, gtN, if_neg (by simp only [hs]; decide)]
  exact gtN_le _ _
 unfold nextS
 rw [if_neg (by rw [hip]; decide), hn, if_neg (by omega)]
 unfold plSnap
 have hw : wasM pl ((n + 1 : Nat) : Int) = true := by
  unfold wasM
  rw [h.len]
  simp
  omega
 rw [if_pos hw]
 have e : (((n + 1 : Nat) : Int)).toNat - 1 = n := by omega
 rw [e]
 exact h.blk
theorem Sett.more (h : Sett n b (j + 1) pl) : nextS pl (j : Int) = none := by
 have hs : pl.said ((j : Int), ((n + 1 : Nat) : Int)) = 1 := by
  have := h.said j
  rw [if_pos (by omega)] at this
  exact this
 have hh : hasN pl (j : Int) = n + 1 := by
  unfold hasN
  rw [h.len, gtN, if_pos (by simpa using hs)]
 have hn : nextN pl (j : Int) ≤ n + 1 := by
  unfold nextN
  rw [h.len]
  exact gtN_le _ _
 unfold nextS
 split
 ·rfl
 ·rw [if_pos (by omega)]
theorem Sett.says (h : Sett n b j pl) (hj : j < 3) : sayE pl (j : Int) ((n : Int) + 1) = 0 := by
 have hip : isPr pl (j : Int) = true := by
  unfold isPr
  rw [h.k3]
  simp
  omega
 have hs : pl.said ((j : Int), (n : Int) + 1) = 0 := by
  have := h.said j
  rw [if_neg (by omega)] at this
  exact this
 have hw : wasM pl ((n : Int) + 1) = true := by
  unfold wasM
  rw [h.len]
  simp
  omega
 unfold sayE
 rw [if_neg (by rw [hip]; decide), if_neg (by rw [hw]; decide), if_neg (by simp [hs])]
theorem Sett.ack (h : Sett n b j pl) (hj : j < 3) : Sett n b (j + 1) (ackP pl (j : Int) ((n : Int) + 1)) := by
 have hw : wasM pl ((n : Int) + 1) = true := (sayE_zero (h.says hj)).2.1
 refine ⟨h.k3, by simp [ackP, h.len], ?_, ?_, fun pr => ?_, fun m hm => ?_⟩
 ·rw [madeAt_ack pl _ _ hw, if_pos rfl]
  exact h.blk
 ·rw [madeAt_ack pl _ _ hw, if_pos rfl]
  show (madeAt pl n).acks + 1 = _
  rw [h.acks]
  omega
 ·show (if (pr, (n : Int) + 1) = ((j : Int), (n : Int) + 1) then (1 : Int) else pl.said (pr, (n : Int) + 1)) = _
  by_cases e : pr = j
  ·subst e
   rw [if_pos rfl, if_pos (by omega)]
  ·rw [if_neg (fun hh => e (Prod.mk.inj hh).1), h.said pr]
   by_cases h2 : 0 ≤ pr ∧ pr < (j : Int)
   ·rw [if_pos h2, if_pos (by omega)]
   ·rw [if_neg h2, if_neg (by omega)]
 ·have hm : m ∈ pl.V.set (((n : Int) + 1).toNat - 1) (upM (pl.V.getD (((n : Int) + 1).toNat - 1) made0)) := hm
  rcases List.mem_or_eq_of_mem_set hm with hm | rfl
  ·have := h.bd m hm
   omega
  ·have e : ((n : Int) + 1).toNat - 1 = n := by omega
   rw [e]
   have := h.acks
   unfold madeAt at this
   show 0 ≤ (pl.V.getD n made0).acks + 1 ∧ (pl.V.getD n made0).acks + 1 ≤ _
   rw [this]
   omega
theorem Sett.live (h : Sett n b 3 pl) : liveN pl = n + 1 := by
 unfold liveN
 rw [h.len, gtN, if_pos]
 rw [ackAt_made]
 show decide ((madeAt pl n).acks = pl.k) = true
 rw [h.acks, h.k3]
 rfl
end
end Go.Proofs.YtkhebanpplokdaaGreatDoor
namespace Go.Proofs.YtkhebanpplokdaaGreatDoor
open Go.ChangeShapes Go.WideShapes Go.ChangeAt Go.RowKit Go.Lib Go.Shelf Go.Maps
set_option maxRecDepth 100000 in
set_option maxHeartbeats 4000000 in
theorem ints30_any (L : List Int) (m : Nat) (v : Value) (w : World) (hs : Ints w v L) (hm : m ≤ 1000) :
  Calls Tryz.prog 17 #[v, .int .i64 m] w fun e w' => ∃ v', e = .returned v' ∧ Ints w' v' (L.take m) ∧ Ext w w' := by
 obtain ⟨i0, hi, hz0, hz1, hz2⟩ := info_z' infoI'
 obtain ⟨hl63, a, cap, rfl⟩ := hs.shape
 obtain ⟨-, hc1, hc2⟩ := hs.cap
 obtain ⟨n, hn⟩ : ∃ n, min L.length m = n := ⟨_, rfl⟩
 have hmin : min (L.length : Int) (m : Int) = (n : Int) := by omega
 have hnl : n ≤ L.length := by omega
 have hnm : n ≤ 1000 := by omega
 have hnc : (n : Int) ≤ (cap : Int) := by omega
 have hncn : n ≤ cap := by omega
 have hn0 : (0 : Int) ≤ n := by omega
 have htk : L.take m = L.take n := by
  rw [← hn]
  by_cases h : L.length ≤ m
  ·rw [Nat.min_eq_left h, List.take_of_length_le h, List.take_length]
  ·rw [Nat.min_eq_right (by omega)]
 have ht := hs.take n hnl
 have hlt : (L.take n).length = n := by rw [List.length_take]; omega
 rw [htk]
 obtain ⟨T, hT⟩ : ∃ T, L.take n = T := ⟨_, rfl⟩
 rw [hT] at ht hlt ⊢
 have HT := hide ht
 have HL := hide hlt
 clear hs ht hlt hT htk hn
 go_enter Tryz.func17, Tryz.ntmps17
 go_wp2_with (at_builtin; refine wpList_append_sl (enc := encI) (by rfl) _ _ 22 (by rfl) w.heap.size 3 i0 (.int .i64 0) 1 8 Tryz.underlying22 hi hz0 hz1 hz2 rfl (by decide) (fun _ => rfl) (.slice none 0 0) 0 [] (by rfl) (World.ownsRow_nil _ _ _ _) _ (by rfl) T HT.out (fun x _ => encI_one x) (by rw [HL.out]; unfold maxLen; omega) (by rw [HL.out]; omega) (Nat.le_refl _) ?_; intro v2 w2 hown2 hgrow2)
 go_ret
 refine ⟨_, rfl, ?_, (Below.refl _ w).grown hgrow2 (Nat.le_refl _) (fun k hk => by cases hk)⟩
 rw [Nat.zero_add, List.nil_append] at hown2
 exact Sl.of_own' (enc := encI) (fun _ => rfl) hown2
end Go.Proofs.YtkhebanpplokdaaGreatDoor
