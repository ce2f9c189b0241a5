/- (*Plane).Pin, Unpin, Drop (printed by wip/gen_pnw.py). -/
import Derived.Test.YtnnddjmdpplolaaGreatDoorZpn
import Derived.Test.YtnnddjmdpplolaaGreatDoorZy
namespace Go.Proofs.YtnnddjmdpplolaaGreatDoor
open Go.ChangeShapes Go.WideShapes Go.ChangeAt Go.RowKit Go.Lib Go.Shelf Go.Maps
theorem PlaneIs.setM {B : Nat} {w : World} {p bm : Nat} {N : Nat} {pl : PlD} {g c : Nat} (h : PlaneIs B w p bm (.slice (some ⟨g, 0, none⟩) pl.V.length c) N pl) (i : Nat) (hi : i < pl.V.length) (j : Nat) (hj : j < 3) (u : Value) (m' : MadeD) (he : encM m' = (encM pl.V[i]).set j u) (hb : ∀ b, m'.b = some b → pl.V[i].b = some b) :
  PlaneIs B (w.setCell ⟨g, i * 3 + j, none⟩ u) p bm (.slice (some ⟨g, 0, none⟩) pl.V.length c) N { pl with V := pl.V.set i m' } ∧ Keeps (fun q => (Value.slice (some ⟨g, 0, none⟩) pl.V.length c).ownBlock = some q) w (w.setCell ⟨g, i * 3 + j, none⟩ u) := by
 have hset := owns_set1 encM_len h.row i j hi hj u m' he
 have hks := Keeps.of_set (X := fun q => (Value.slice (some ⟨g, 0, none⟩) pl.V.length c).ownBlock = some q) w g (i * 3 + j) u rfl
 obtain ⟨cs, fz, hgk⟩ := ownsRow_kind h.row g rfl
 have hpg : p ≠ g := fun e => by
  subst e
  rw [h.box] at hgk
  cases hgk
 have hbg : bm ≠ g := fun e => by
  obtain ⟨n, -, hs⟩ := h.sm
  obtain ⟨es, cc, hb⟩ := hs.block
  rw [e, hgk] at hb
  cases hb
 have hng : ∀ {q : Nat}, q ≠ g → ¬ (Value.slice (some ⟨g, 0, none⟩) pl.V.length c).ownBlock = some q := fun hq e => hq (by cases e; rfl)
 refine ⟨⟨h.hp, h.hm, ?_, ?_, ?_, fun k hk b hkb => ?_⟩, hks⟩
 ·exact (hks.block p h.lt (hng hpg)).trans h.box
 ·rw [List.length_set]
  exact hset
 ·obtain ⟨n, hn, hs⟩ := h.sm
  exact ⟨n, hn, (hs.setCell (a := ⟨g, i * 3 + j, none⟩) hbg _)⟩
 ·have hk2 : k < pl.V.length := by simpa using hk
  have hb2 : pl.V[k].b = some b := by
   simp only [List.getElem_set] at hkb
   split at hkb
   ·rename_i e
    subst e
    exact hb b hkb
   ·exact hkb
  obtain ⟨g1, cs2, f2, g2⟩ := h.ver k hk2 b hb2
  have hne : b ≠ g := fun e => by
   rw [e, hgk] at g2
   cases g2
  have g3 := (hks.block b (Array.getElem?_eq_some_iff.1 g2).1 (hng hne)).trans g2
  refine ⟨?_, cs2, f2, g3⟩
  rw [← g1]
  exact World.cell?_of_block (w := w) (a := ⟨b, 0, none⟩) (g3.trans g2.symm)
set_option maxRecDepth 100000 in
set_option maxHeartbeats 4000000 in
theorem pin_any {B : Nat} {w : World} {p bm : Nat} {vv : Value} {N : Nat} {pl : PlD} (h : PlaneIs B w p bm vv N pl) (v : Int) (hI : I64 v) (hpb : ∀ m ∈ pl.V, 0 ≤ m.pins ∧ m.pins ≤ 1000000) :
  Calls Tryz.prog 23 #[.pointer (some ⟨p, 0, none⟩), .int .i64 v] w fun e w' => e = .returned (.int .i64 (pinE pl v)) ∧ ((pinE pl v ≠ 0 ∧ Ext w w') ∨ (pinE pl v = 0 ∧ Keeps (fun q => vv.ownBlock = some q) w w' ∧ PlaneIs B w' p bm vv N (pinP pl v 1))) := by
 have HLV := hide (live_any h)
 have H := hide h
 have HPB := hide hpb
 have hle : liveN pl ≤ pl.V.length := gtN_le _ _
 clear h hpb
 by_cases h0 : v = 0
 ·have he : pinE pl v = 17 := by unfold pinE; rw [if_pos (.inl h0)]
  rw [he]
  subst h0
  clear HLV he hle
  go_enter Tryz.func23, Tryz.ntmps23
  go_wp2
  go_ret
  exact ⟨rfl, .inl ⟨by decide, Below.refl _ _⟩⟩
 have d0 : (v == 0) = false := by simpa using h0
 by_cases hv : v = (liveN pl : Int)
 ·have he : pinE pl v = 0 := by unfold pinE; rw [if_neg (by omega)]
  rw [he]
  have h1 : 1 ≤ v := by omega
  have h2 : v ≤ (pl.V.length : Int) := by omega
  obtain ⟨l, hl⟩ : ∃ l : Int, (liveN pl : Int) = l := ⟨_, rfl⟩
  rw [hl] at HLV hv
  have dq : (v != l) = false := by simpa using hv
  have HV := hide hv
  clear he hl hle hv h0
  go_enter Tryz.func23, Tryz.ntmps23
  go_wp2_with fail
  refine HLV.out.mono ?_
  rintro e w2 ⟨rfl, hE⟩
  have hlen1 := h1
  have hlen2 := h2
  have h2P := H.out.ext hE
  clear HLV
  obtain ⟨m, hm⟩ : ∃ m : Nat, v = (m : Int) + 1 := ⟨v.toNat - 1, by omega⟩
  subst hm
  have hml : m < pl.V.length := by omega
  have hr := h2P.row
  have h63 := owns_len hr
  obtain ⟨g, c, hvv, -⟩ := owns_form hr (by omega)
  rw [hvv] at h2P hr
  have c1 := h2P.c1
  obtain ⟨d1, z1⟩ := cell_row encM_len hr m hml 2 _ rfl
  have hav := HPB.out _ (List.getElem_mem hml)
  obtain ⟨hnew, hkk⟩ := h2P.setM m hml 2 (by decide) (.int .i64 (pl.V[m].pins + 1)) (pinM pl.V[m] (1)) rfl (fun b hb => hb)
  have hpe : pinP pl ((m : Int) + 1) (1) = { pl with V := pl.V.set m (pinM pl.V[m] (1)) } := by
   have e1 : ((m : Int) + 1).toNat - 1 = m := by omega
   unfold pinP
   rw [e1, madeAt_eq pl hml]
  rw [← hpe, ← hvv] at hnew
  rw [← hvv] at hkk
  have HNW := hide hnew
  have HKK := hide hkk
  have HHE := hide hE
  have hw1 : IntKind.i64.wrap (((m : Int) + 1) - 1) = (m : Int) := by rw [IntKind.wrap_i64]; omega
  have hw2 : IntKind.i64.wrap (pl.V[m].pins + 1) = pl.V[m].pins + 1 := by rw [IntKind.wrap_i64]; omega
  have hmz : (m : Int) < pl.V.length := by omega
  have hm0 : (0 : Int) ≤ m := by omega
  obtain ⟨vz, hvz⟩ : ∃ vz : Int, (m : Int) + 1 = vz := ⟨_, rfl⟩
  rw [hvz] at hw1 d0 dq ⊢
  have HVZ := hide hvz
  generalize pl.V[m].pins = x at *
  clear hnew hkk hlen1 hlen2 hr h63 hvv hav h2P hvz hpe hE HV h1 h2
  go_wp2
  go_ret
  have e := HVZ.out
  subst e
  first
  | exact ⟨rfl, .inr ⟨rfl, (Keeps.of_ext HHE.out).trans HKK.out, HNW.out⟩⟩
  | exact ⟨rfl, .inr ⟨trivial, (Keeps.of_ext HHE.out).trans HKK.out, HNW.out⟩⟩
 ·have he : pinE pl v = 17 := by unfold pinE; rw [if_pos (.inr hv)]
  rw [he]
  obtain ⟨l, hl⟩ : ∃ l : Int, (liveN pl : Int) = l := ⟨_, rfl⟩
  rw [hl] at HLV hv
  have d1 : (v != l) = true := by simpa using hv
  clear he hl hle hv h0
  go_enter Tryz.func23, Tryz.ntmps23
  go_wp2_with fail
  refine HLV.out.mono ?_
  rintro e w2 ⟨rfl, hE⟩
  have HE := hide hE
  clear HLV hE
  go_wp2
  go_ret
  exact ⟨rfl, .inl ⟨by decide, HE.out⟩⟩
set_option maxRecDepth 100000 in
set_option maxHeartbeats 4000000 in
theorem unpin_any {B : Nat} {w : World} {p bm : Nat} {vv : Value} {N : Nat} {pl : PlD} (h : PlaneIs B w p bm vv N pl) (v : Int) (hI : I64 v) (hpb : ∀ m ∈ pl.V, 0 ≤ m.pins ∧ m.pins ≤ 1000000) :
  Calls Tryz.prog 49 #[.pointer (some ⟨p, 0, none⟩), .int .i64 v] w fun e w' => e = .returned (.int .i64 (unpE pl v)) ∧ ((unpE pl v ≠ 0 ∧ Ext w w') ∨ (unpE pl v = 0 ∧ Keeps (fun q => vv.ownBlock = some q) w w' ∧ PlaneIs B w' p bm vv N (pinP pl v (-1)))) := by
 have HW := hide (wasMade_any h v)
 have H := hide h
 have HPB := hide hpb
 clear h hpb
 obtain ⟨wm, hwm⟩ : ∃ b, wasM pl v = b := ⟨_, rfl⟩
 rw [hwm] at HW
 cases wm with
 | false =>
  have he : unpE pl v = 17 := by unfold unpE; rw [if_pos hwm]
  rw [he]
  clear he hwm
  go_enter Tryz.func49, Tryz.ntmps49
  go_wp2_with fail
  refine HW.out.mono ?_
  rintro e w2 ⟨rfl, rfl⟩
  go_wp2
  go_ret
  exact ⟨rfl, .inl ⟨by decide, Below.refl _ _⟩⟩
 | true =>
  have h12 : 1 ≤ v ∧ v ≤ (pl.V.length : Int) := by
   unfold wasM at hwm
   simpa using hwm
  obtain ⟨h1, h2l⟩ := h12
  have hue : unpE pl v = if (madeAt pl (v.toNat - 1)).pins = 0 then 17 else 0 := by unfold unpE; rw [if_neg (by rw [hwm]; decide)]
  clear hwm
  have h2P := H.out
  have hE : Ext w w := Below.refl _ _
  obtain ⟨m, hm⟩ : ∃ m : Nat, v = (m : Int) + 1 := ⟨v.toNat - 1, by omega⟩
  subst hm
  have hml : m < pl.V.length := by omega
  have hr := h2P.row
  have h63 := owns_len hr
  obtain ⟨g, c, hvv, -⟩ := owns_form hr (by omega)
  rw [hvv] at h2P hr
  have c1 := h2P.c1
  obtain ⟨d1, z1⟩ := cell_row encM_len hr m hml 2 _ rfl
  have hav := HPB.out _ (List.getElem_mem hml)
  obtain ⟨hnew, hkk⟩ := h2P.setM m hml 2 (by decide) (.int .i64 (pl.V[m].pins - 1)) (pinM pl.V[m] (-1)) rfl (fun b hb => hb)
  have hpe : pinP pl ((m : Int) + 1) (-1) = { pl with V := pl.V.set m (pinM pl.V[m] (-1)) } := by
   have e1 : ((m : Int) + 1).toNat - 1 = m := by omega
   unfold pinP
   rw [e1, madeAt_eq pl hml]
  rw [← hpe, ← hvv] at hnew
  rw [← hvv] at hkk
  have HNW := hide hnew
  have HKK := hide hkk
  have HHE := hide hE
  have hw1 : IntKind.i64.wrap (((m : Int) + 1) - 1) = (m : Int) := by rw [IntKind.wrap_i64]; omega
  have hw2 : IntKind.i64.wrap (pl.V[m].pins - 1) = pl.V[m].pins - 1 := by rw [IntKind.wrap_i64]; omega
  have hmz : (m : Int) < pl.V.length := by omega
  have hm0 : (0 : Int) ≤ m := by omega
  have hme : (madeAt pl (((m : Int) + 1).toNat - 1)).pins = pl.V[m].pins := by
   rw [show ((m : Int) + 1).toNat - 1 = m by omega, madeAt_eq pl hml]
  rw [hme] at hue
  obtain ⟨vz, hvz⟩ : ∃ vz : Int, (m : Int) + 1 = vz := ⟨_, rfl⟩
  rw [hvz] at hw1 HW hue ⊢
  have HVZ := hide hvz
  rw [hue]
  have HUE := hide hue
  generalize pl.V[m].pins = x at *
  clear hnew hkk h1 h2l hr h63 hvv hav h2P hvz hpe hE hue hme
  by_cases e0 : x = 0
  ·have d0 : (x == 0) = true := by simpa using e0
   rw [if_pos e0]
   clear e0 HUE
   go_enter Tryz.func49, Tryz.ntmps49
   go_wp2_with fail
   refine HW.out.mono ?_
   rintro e w2 ⟨rfl, rfl⟩
   go_wp2
   go_ret
   exact ⟨rfl, .inl ⟨by decide, Below.refl _ _⟩⟩
  ·have d0 : (x == 0) = false := by simpa using e0
   rw [if_neg e0]
   clear e0 HUE
   go_enter Tryz.func49, Tryz.ntmps49
   go_wp2_with fail
   refine HW.out.mono ?_
   rintro e w2 ⟨rfl, rfl⟩
   go_wp2
   go_ret
   have e := HVZ.out
   subst e
   first
   | exact ⟨rfl, .inr ⟨rfl, HKK.out, HNW.out⟩⟩
   | exact ⟨rfl, .inr ⟨trivial, HKK.out, HNW.out⟩⟩
theorem PlaneIs.keepT {B : Nat} {w w' : World} {p bm : Nat} {vv : Value} {N : Nat} {pl : PlD} {X : Nat → Prop} {T : TypeId} (h : PlaneIs B w p bm vv N pl) (k : Keeps X w w') (hX : OfT w X T) (h1 : T ≠ 80) (h2 : T ≠ 104) (h3 : T ≠ 61) : PlaneIs B w' p bm vv N pl :=
 h.keeps k (fun hx => by
  obtain ⟨cs, f, hc⟩ := hX _ hx
  rw [h.box] at hc
  cases hc
  exact h1 rfl) (fun hx => by
  obtain ⟨cs, f, hc⟩ := hX _ hx
  obtain ⟨n, -, hs⟩ := h.sm
  obtain ⟨es, cc, hb⟩ := hs.block
  rw [hb] at hc
  cases hc) (fun g hg hx => by
  obtain ⟨cs, f, hc⟩ := hX _ hx
  exact h2 (owns_type h.row hg hc)) (fun q hx cs f e => by
  obtain ⟨cs', f', hc⟩ := hX _ hx
  rw [hc] at e
  cases e
  exact h3 rfl)
theorem Keeps.app {X : Nat → Prop} {w wr w2 : World} {e : TypeId} {size n : Nat} {v : Value} {xs : List Value} (h : Keeps X w wr) (ho : wr.ownsRow w.heap.size e size v n xs) (hg : wr.grownBy w2 v.ownBlock) : Keeps X w w2 :=
 ⟨hg.os.trans h.os, hg.tape.trans h.tape, hg.output.trans h.output, Nat.le_trans h.size hg.size, fun k hk hx => (hg.block k (Nat.lt_of_lt_of_le hk h.size) (fun e => by have := (ho.lt k e.symm).1; omega)).trans (h.block k hk hx)⟩
set_option maxRecDepth 100000 in
set_option maxHeartbeats 8000000 in
theorem drop_any {B : Nat} {w : World} {p bm : Nat} {vv : Value} {N : Nat} {pl : PlD} (h : PlaneIs B w p bm vv N pl) (h50 : pl.V.length ≤ 1000) :
  Calls Tryz.prog 24 #[.pointer (some ⟨p, 0, none⟩)] w fun e w' => ∃ v', e = .returned v' ∧ w'.ownsRow w.heap.size 3 1 v' (goneN pl (liveN pl - 1)).length ((goneN pl (liveN pl - 1)).flatMap encI) ∧ PlaneIs B w' p bm vv N (dropN pl (liveN pl - 1)) ∧ Keeps (fun q => vv.ownBlock = some q) w w' := by
 obtain ⟨i0, hi, hz0, hz1, hz2⟩ := info_z' infoI'
 have hle : liveN pl ≤ pl.V.length := gtN_le _ _
 have hlv := live_drop pl
 obtain ⟨lv, hl⟩ : ∃ l, liveN pl = l := ⟨_, rfl⟩
 rw [hl] at hle ⊢
 simp only [hl] at hlv
 have HLV := hide hlv
 have H := hide h
 clear h hlv hl
 go_enter Tryz.func24, Tryz.ntmps24
 go_wp2_with fail
 go_loopw [3, 4] (fun v3 v4 wr => ∃ t : Nat, (t + 1 ≤ lv ∨ t = 0) ∧ v4 = .int .i64 ((t : Int) + 1) ∧ Hid (wr.ownsRow w.heap.size 3 1 v3 (goneN pl t).length ((goneN pl t).flatMap encI) ∧ PlaneIs B wr p bm vv N (dropN pl t) ∧ Keeps (fun q => vv.ownBlock = some q) w wr)) (fun _ i _ => lv + 1 - (intOf i).toNat)
 case atStart => exact ⟨0, .inr rfl, rfl, ⟨⟨by simp [goneN], .inl ⟨rfl, rfl⟩⟩, by rw [dropN_zero]; exact H.out, Keeps.refl _ _⟩⟩
 case round =>
  obtain ⟨t, ht, rfl, hx⟩ := hrel
  have HX := hide hx.out
  clear hx
  generalize wr = wo at *
  go_wp2_with fail
  refine (live_any HX.out.2.1).mono ?_
  rintro e w3 ⟨rfl, E3⟩
  rw [HLV.out]
  obtain ⟨hown, hpl, hkp⟩ := HX.out
  have hown := owns_ext hown E3
  have hpl := hpl.ext E3
  have hkp := hkp.trans (Keeps.of_ext E3)
  clear HX E3
  by_cases hlt : t + 1 < lv
  ·have hltz : (t : Int) + 1 < (lv : Int) := by omega
   have hml : t < (dropN pl t).V.length := by rw [dropN_len]; omega
   have hmlp : t < pl.V.length := by omega
   have hr := hpl.row
   have h63 := owns_len hr
   obtain ⟨g, c, hvv, -⟩ := owns_form hr (by omega)
   subst hvv
   have c0 := hpl.c0
   have c1 := hpl.c1
   obtain ⟨d0, z0⟩ := cell_row encM_len hr t hml 0 _ rfl
   obtain ⟨d2, z2⟩ := cell_row encM_len hr t hml 2 _ rfl
   have hget : (dropN pl t).V[t] = madeAt pl t := by rw [dropN_get pl t t hmlp, if_neg (by omega), madeAt_eq pl hmlp]
   have hsetM := hpl.setM t hml 0 (by decide) (.pointer none) ⟨none, (madeAt pl t).acks, (madeAt pl t).pins⟩ (by rw [hget]; rfl) (fun b hb => by cases hb)
   rw [hget] at d0 d2
   have hw1 : IntKind.i64.wrap ((t : Int) + 1 - 1) = (t : Int) := by rw [IntKind.wrap_i64]; omega
   have hw2 : IntKind.i64.wrap ((t : Int) + 1 + 1) = ((t + 1 : Nat) : Int) + 1 := by rw [IntKind.wrap_i64]; omega
   have hmz : (t : Int) < (dropN pl t).V.length := by omega
   have hgs := goneN_succ pl t
   have hds := dropN_succ pl t hmlp
   have hsame := dropN_same pl t hmlp
   have hgl := goneN_len pl t
   obtain ⟨an, cn, rfl⟩ := owns_shape hown
   have hksz := hkp.size
   have HOWN := hide hown
   have HPL := hide hpl
   have HKP := hide hkp
   obtain ⟨M, hM⟩ : ∃ M, madeAt pl t = M := ⟨_, rfl⟩
   rw [hM] at d0 d2 hsetM hds hgs hsame
   have HSM := hide hsetM
   have HDS := hide hds
   have HGS := hide hgs
   have HSAME := hide hsame
   clear hown hpl hkp hr h63 hget hsetM hgs hds hsame c0 hM
   obtain ⟨mb, ma, mp⟩ := M
   have d2' : w3.cell? ⟨g, t * 3 + 2, none⟩ = some (.int .i64 mp) := d2
   clear d2
   cases mb with
   | none =>
    have d0' : w3.cell? ⟨g, t * 3, none⟩ = some (.pointer none) := d0
    clear d0
    have hno : mayDrop ⟨none, ma, mp⟩ = false := rfl
    have HNO := hide hno
    clear hno HSM HDS z0 z2 hgl
    obtain ⟨z, hz⟩ : ∃ z : Int, (t : Int) + 1 = z := ⟨_, rfl⟩
    have HZZ := hide hz
    rw [hz] at hw1 hw2 hltz ⊢
    clear hz
    go_wp2
    go_roundw
    case rel => exact ⟨t + 1, .inl (by omega), rfl, ⟨by rw [HGS.out, if_neg (by rw [HNO.out]; decide)]; exact HOWN.out, by rw [HSAME.out HNO.out]; exact HPL.out, HKP.out⟩⟩
    case measure => have := HZZ.out; (simp [intOf]) <;> omega
   | some mb =>
    have d0' : w3.cell? ⟨g, t * 3, none⟩ = some (.pointer (some ⟨mb, 0, none⟩)) := d0
    have z0' : w3.frozen? ⟨g, t * 3, none⟩ = false := z0
    clear d0 z0
    by_cases hp0 : mp = 0
    ·have e0 : (mp == 0) = true := by simpa using hp0
     have hyes : mayDrop ⟨some mb, ma, mp⟩ = true := by subst hp0; rfl
     have HYES := hide hyes
     obtain ⟨hnew, hkk⟩ := HSM.out
     have hdm : dropM ⟨some mb, ma, mp⟩ = ⟨none, ma, mp⟩ := by unfold dropM; rw [if_pos hp0]
     have hds := HDS.out
     rw [hdm] at hds
     rw [← hds] at hnew
     have hown := owns_keepT HOWN.out hkk (OfT.own HPL.out.row) (by decide)
     have HNW := hide hnew
     have HKK := hide (HKP.out.trans hkk)
     have hgl2 := hgl
     clear hyes hnew hkk hdm hds HSM HDS HSAME hp0 z2
     obtain ⟨z, hz⟩ : ∃ z : Int, (t : Int) + 1 = z := ⟨_, rfl⟩
     have HZZ := hide hz
     rw [hz] at hw1 hw2 hltz ⊢
     clear hz
     obtain ⟨n, hn⟩ : ∃ n, (goneN pl t).length = n := ⟨_, rfl⟩
     rw [hn] at hown hgl hgl2 ⊢
     have HN := hide hn
     clear hn HOWN
     go_wp2_with (at_builtin; refine wpList_append_own _ (by rfl) _ _ 22 (by rfl) w.heap.size 3 i0 (.int .i64 0) 1 8 Tryz.underlying22 hi hz0 hz1 hz2 rfl (by decide) _ n _ (by rfl) (hown.alloc _) ⟨w3.heap.size, 0, none⟩ 1 1 [.int .i64 z] (by rfl) (by rfl) (by first | exact cells_new w3 [.int .i64 z] 3 | (have := cells_new (w3.setCell ⟨g, t * 3, none⟩ (.pointer none)) [.int .i64 z] 3; simpa [World.setCell] using this)) (by simp [Value.oneCell']) (by unfold maxLen; omega) (by omega) (by simp; omega) ?_; intro v2 w2 hown2 hgrow2 _)
     go_roundw
     case rel =>
      have hz := HZZ.out
      have hal : Ext (w3.setCell ⟨g, t * 3, none⟩ (.pointer none)) ((w3.setCell ⟨g, t * 3, none⟩ (.pointer none)).alloc (.cells #[.int .i64 z] 3)) := (Below.refl _ _).alloc (Nat.le_refl _) _
      refine ⟨t + 1, .inl (by omega), rfl, ⟨?_, ?_, ?_⟩⟩
      ·rw [HGS.out, if_pos HYES.out, List.length_append, HN.out, List.flatMap_append, hz]
       exact hown2
      ·exact (HNW.out.ext hal).keepT (Keeps.of_grown hgrow2 (X := fun q => (Value.slice an n cn).ownBlock = some q) (fun k hk => hk)) (OfT.own (hown.alloc _)) (by decide) (by decide) (by decide)
      ·exact (HKK.out.trans (Keeps.of_ext hal)).app (hown.alloc _) hgrow2
     case measure => have := HZZ.out; (simp [intOf]) <;> omega
    ·have e0 : (mp == 0) = false := by simpa using hp0
     have hno : mayDrop ⟨some mb, ma, mp⟩ = false := by unfold mayDrop; simpa using hp0
     have HNO := hide hno
     clear hno HSM HDS z0' z2 hgl hp0
     obtain ⟨z, hz⟩ : ∃ z : Int, (t : Int) + 1 = z := ⟨_, rfl⟩
     have HZZ := hide hz
     rw [hz] at hw1 hw2 hltz ⊢
     clear hz
     go_wp2
     go_roundw
     case rel => exact ⟨t + 1, .inl (by omega), rfl, ⟨by rw [HGS.out, if_neg (by rw [HNO.out]; decide)]; exact HOWN.out, by rw [HSAME.out HNO.out]; exact HPL.out, HKP.out⟩⟩
     case measure => have := HZZ.out; (simp [intOf]) <;> omega
  ·have hnz : ¬ (t : Int) + 1 < (lv : Int) := by omega
   have hte : t = lv - 1 := by omega
   have hown2 := hown
   have hpl2 := hpl
   rw [hte] at hown2 hpl2
   have HOWN := hide hown2
   have HPL := hide hpl2
   have HKP := hide hkp
   clear hown2 hpl2
   clear hown hpl hkp hlt hle ht hte
   obtain ⟨z, hz⟩ : ∃ z : Int, (t : Int) + 1 = z := ⟨_, rfl⟩
   rw [hz] at hnz ⊢
   clear hz
   go_wp2
   go_ret
   exact ⟨_, rfl, HOWN.out, HPL.out, HKP.out⟩
end Go.Proofs.YtnnddjmdpplolaaGreatDoor
