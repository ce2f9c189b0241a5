/- Merged texts (CfF, CfE, CfY, CfZ). -/
import Derived.Deep.AppendLies
import Derived.Deep.RegionHeld3
import Derived.Test.YtmpciohmljpncaaGreatDoorZcg
namespace Go.Proofs.YtmpciohmljpncaaGreatDoor
open Go.ChangeShapes Go.WideShapes Go.ChangeAt Go.RowKit Go.Lib Go.Shelf
theorem confB_zero (L : List Int) : confB L 0 = confA L (svcsM L) := by
 unfold confB confA
 rw [show endsZ L (svcsM L) 0 = [] from rfl, List.append_nil]
 rfl
set_option maxRecDepth 100000 in
set_option maxHeartbeats 16000000 in
theorem conf_tail6 (L : List Int) (a : Option Addr) (c : Nat) (w W : World) (b5 : Nat) (x : Nat → Value) (e0 : x 0 = .slice a L.length c) (e2 : x 2 = .pointer (some ⟨w.heap.size, 0, none⟩)) (e4 : x 4 = .int .i64 (svcsM L : Nat)) (e5 : x 5 = .pointer (some ⟨b5, 0, none⟩)) (c1 : ConfD) (hcore : c1.cor2 = confA L (svcsM L)) (hcs : CS w W w.heap.size b5 c1) (hs : Ints w (.slice a L.length c) L) (hL : ∀ x ∈ L, I64 x) :
  Code.wp Tryz.prog (confTail 6) (bodyPost Tryz.prog Tryz.f4 (ConfP L w)) ⟨frameOf 236 x, []⟩ W := by
 conv => arg 2; whnf
 rw [frame236]
 simp only [e0, e2, e4, e5]
 clear e0 e2 e4 e5
 have hm := svcsM_bd L
 have HP6 := hide (fun X (hX : Ext w X) => (pick_any L 6 (.slice a L.length c) X (hs.ext hX) hL : Calls Tryz.prog 8 #[.slice a L.length c, .int .i64 6] X _))
 have HS := hide hs
 have HL := hide hL
 have HCS := hide hcs
 rw [← confB_zero] at hcore
 have HC0 := hide hcore
 have p6 := pk_lt L 6
 have hem : endsM L = min (7 - svcsM L) (pk L 6 % 4) := rfl
 obtain ⟨N6, hN6⟩ : ∃ N, pk L 6 = N := ⟨_, rfl⟩
 obtain ⟨M, hM⟩ : ∃ M, svcsM L = M := ⟨_, rfl⟩
 rw [hN6] at HP6 p6 hem
 rw [hM] at hm hem ⊢
 have HN6 := hide hN6
 have HM := hide hM
 obtain ⟨hm1, hm4⟩ := hm
 have hm1z : (1 : Int) ≤ M := by omega
 have hm4z : (M : Int) ≤ 4 := by omega
 have p6z : (N6 : Int) < 1000000 := by omega
 have hm0 : ((M : Int) == 0) = false := beq_eq_false_iff_ne.2 (by omega)
 have hm0' : ¬ (M : Int) = 0 := by omega
 have hb1 : 0 ≤ (N6 : Int) / 4 % (M : Int) ∧ (N6 : Int) / 4 % (M : Int) < M := ⟨Int.emod_nonneg _ hm0', Int.emod_lt_of_pos _ (by omega)⟩
 have HB1 := hide hb1
 obtain ⟨EM, hEM⟩ : ∃ E, endsM L = E := ⟨_, rfl⟩
 rw [hEM] at hem
 have HEM := hide hEM
 clear hcs hN6 hM hs hL hcore hb1 hEM
 go_upto_block 4 with fail
 go_cut [10] from 132 to 165 (fun _ w' => ∃ c', c'.cor2 = confB L (endsM L) ∧ CS w w' w.heap.size b5 c')
 case first =>
  go_wp2_with fail
  go_loopw [10] (fun v10 wr => ∃ (tq : Nat) (cc : ConfD), v10 = .int .i64 ((M : Int) + 1 + (tq : Int)) ∧ tq ≤ EM ∧ Hid (cc.cor2 = confB L tq) ∧ Hid (CS w wr w.heap.size b5 cc)) (fun i _ => (M + 1 + EM : Nat) - (intOf i).toNat)
  case atStart => exact ⟨0, c1, (by show Value.int .i64 _ = Value.int .i64 _; simp), by omega, HC0.out, HCS.out⟩
  case round =>
   obtain ⟨tq, cc, rfl, ht, hcore, hcs⟩ := hrel
   have HCR := hide hcore.out
   have HCC := hide hcs.out
   clear hcore hcs
   generalize wr = wo at *
   have hp6 := HP6.out wo HCC.out.ext
   by_cases hlt : tq < EM
   ·have h1 : (M : Int) + 1 + (tq : Int) ≤ 7 := by omega
    have h2 : (M : Int) + 1 + (tq : Int) ≤ (M : Int) + (N6 : Int) % 4 := by omega
    have hEl : cc.E.length ≤ 10 := by
     have := congrArg (fun c => c.E.length) HCR.out
     have e : cc.E.length = (endsA L (svcsM L) ++ endsZ L (svcsM L) tq).length := by simpa [ConfD.cor2, ConfD.core, confB] using this
     rw [e, List.length_append, endsA_len, endsZ_len, HM.out]
     omega
    obtain ⟨ea, ec, hev⟩ := owns_shape HCC.out.own.e
    have heo := HCC.out.own.e
    rw [hev] at heo
    obtain ⟨ie, ze, hie0, hie1, hie2, hie3, hie4⟩ := info_partsN Tryz.infoE
    have HEV := hide hev
    have HEO := hide heo
    have HEL := hide hEl
    have HT := hide hlt
    have HPM := hide hp6
    clear hev heo hEl hp6 hlt ht
    go_wp2_with fail
    refine HPM.out.mono ?_
    rintro e w9 ⟨rfl, rfl⟩
    clear HPM
    have tn : ¬ M = 0 := by omega
    have td1 : (N6 : Int).tdiv 4 = (N6 : Int) / 4 := Int.tdiv_eq_ediv_of_nonneg (by omega)
    have tw1 : IntKind.i64.wrap ((N6 : Int) / 4) = (N6 : Int) / 4 := IntWalk.i64_in _ (by omega)
    obtain ⟨y, hy⟩ : ∃ y, (N6 : Int) / 4 % (M : Int) = y := ⟨_, rfl⟩
    have tb := HB1.out
    have td2 : ((N6 : Int) / 4).tmod (M : Int) = y := by rw [← hy]; exact Int.tmod_eq_emod_of_nonneg (by omega)
    rw [hy] at tb
    obtain ⟨tb1, tb2⟩ := tb
    have tb3 : y ≤ 4 := by omega
    have tw2 : IntKind.i64.wrap y = y := IntWalk.i64_in _ (by omega)
    have tw3 : IntKind.i64.wrap (1 + y) = 1 + y := IntWalk.i64_in _ (by omega)
    have td3 : (N6 : Int).tdiv 16 = (N6 : Int) / 16 := Int.tdiv_eq_ediv_of_nonneg (by omega)
    have tw4 : IntKind.i64.wrap ((N6 : Int) / 16) = (N6 : Int) / 16 := IntWalk.i64_in _ (by omega)
    have tw5 : IntKind.i64.wrap ((N6 : Int) / 16 + ((M : Int) + 1 + (tq : Int))) = (N6 : Int) / 16 + ((M : Int) + 1 + (tq : Int)) := IntWalk.i64_in _ (by omega)
    obtain ⟨z, hz⟩ : ∃ z, ((N6 : Int) / 16 + ((M : Int) + 1 + (tq : Int))) % 2 = z := ⟨_, rfl⟩
    have td4 : ((N6 : Int) / 16 + ((M : Int) + 1 + (tq : Int))).tmod 2 = z := by rw [← hz]; exact Int.tmod_eq_emod_of_nonneg (by omega)
    have hz1 : 0 ≤ z ∧ z ≤ 1 := by omega
    obtain ⟨hz2, hz3⟩ := hz1
    have tw6 : IntKind.i64.wrap z = z := IntWalk.i64_in _ (by omega)
    have tw7 : IntKind.i64.wrap (1 + z) = 1 + z := IntWalk.i64_in _ (by omega)
    have HY := hide hy
    have HZ := hide hz
    have cv : wo.cell? ⟨b5, 1, none⟩ = some (.slice ea cc.E.length ec) := by rw [← HEV.out]; exact HCC.out.box.cell 1 _ rfl
    have fv := HCC.out.box.frozen 1
    have hlt2 := HCC.out.box.lt
    have hbs := HCC.out.ext.size
    have hel10 := HEL.out
    have hcd := HCC.out.ext.trans (Below.refl _ wo).drew
    have HCD := hide hcd
    clear hy hz tb2 hcd
    go_upto_region 19 with (fail)
    go_region_law (first
     | (refine step_append_own (by rfl) _ _ _ (by rfl) w.heap.size 41 ie ze 3 24 Tryz.underlying24 hie0 hie1 hie2 hie3 hie4 (by omega) (.slice ea cc.E.length ec) cc.E.length _ (by rfl) ((HEO.out.alloc _).drew) ⟨wo.heap.size, 0, none⟩ 1 1 [.int .i64 ((M : Int) + 1 + (tq : Int)), .int .i64 (1 + y), .int .i64 (1 + z)] (by rfl) (by rfl) (World.news_of_block (cs := #[.int .i64 ((M : Int) + 1 + (tq : Int)), .int .i64 (1 + y), .int .i64 (1 + z)]) (t := 41) (fr := (0, 0)) (heap_alloc_new wo _)) (by simp [Value.oneCell']) (by unfold maxLen; omega) (by omega) (by simp; omega) ?_; intro v2 w6 hown2 hgrow2 _; obtain ⟨a2, c2, rfl⟩ := owns_shape hown2; have hk6 := Keeps.of_grown (X := fun q => (Value.slice ea cc.E.length ec).ownBlock = some q) hgrow2 (fun _ h => h); have hb6 := HCC.out.box.keep ((hk6.block b5 (by simp; omega) (fun e => absurd (owns_type HEO.out e HCC.out.box) (by decide))).trans ((((Below.refl _ wo).alloc (Nat.le_refl _) (.cells #[.int .i64 ((M : Int) + 1 + (tq : Int)), .int .i64 (1 + y), .int .i64 (1 + z)] 41)).drew).block b5 hlt2)); have cv6 : w6.cell? ⟨b5, 1, none⟩ = some cc.ev := hb6.cell 1 _ rfl; have fv6 := hb6.frozen 1)
     | (go_simp; go_at_call 8; refine (HP6.out _ HCD.out).mono ?_; rintro e w7 ⟨rfl, rfl⟩))
    all_goals
     have hk7 : Keeps (fun q => cc.ev.ownBlock = some q) wo w6 := by rw [HEV.out]; exact (Keeps.of_ext (((Below.refl _ wo).alloc (Nat.le_refl _) _).drew)).trans hk6
     have hC3 := HCC.out.addE (s := ⟨(M : Int) + 1 + (tq : Int), 1 + y, 1 + z⟩) hk7 hown2
     have hcore3 : ({ cc with ev := .slice a2 (cc.E.length + 1) c2, E := cc.E ++ [⟨(M : Int) + 1 + (tq : Int), 1 + y, 1 + z⟩] } : ConfD).cor2 = confB L (tq + 1) := by
      show ({ cc.cor2 with E := cc.cor2.E ++ [⟨(M : Int) + 1 + (tq : Int), 1 + y, 1 + z⟩] } : ConfD) = _
      have ee : (⟨(M : Int) + 1 + (tq : Int), 1 + y, 1 + z⟩ : EndD) = endZ L M (M + 1 + tq) := by
       unfold endZ
       rw [HN6.out, ← HY.out, ← HZ.out]
       simp
      rw [HCR.out, ee]
      show ({ confB L tq with E := (endsA L (svcsM L) ++ endsZ L (svcsM L) tq) ++ [endZ L M (M + 1 + tq)] } : ConfD) = { genC L with E := endsA L (svcsM L) ++ endsZ L (svcsM L) (tq + 1), R := [], T := [], w0 := 0, w1 := 0, w2 := 0, w3 := 0, w4 := 0, w5 := 0, w6 := 0 }
      rw [← HM.out, List.append_assoc, ← endsZ_succ]
      rfl
     have HC3 := hide hC3
     have HCO3 := hide hcore3
     have htm := HT.out
     clear hC3 hcore3 hk7 hk6 hown2 hgrow2 hb6 cv6 fv6 cv fv td1 td2 td3 td4 tw1 tw2 tw3 tw4 tw5 tw6 tw7 hem
     go_wp2
     go_roundw
     case rel => exact ⟨tq + 1, _, (by show Value.int .i64 _ = Value.int .i64 _; congr 1), by omega, HCO3.out, HC3.out⟩
     case measure => simp [intOf] <;> omega
   ·have hte : tq = EM := by omega
    have HTE := hide hte
    have HPM := hide hp6
    clear hp6
    by_cases h7 : (M : Int) + 1 + (tq : Int) ≤ 7
    ·have h2 : ¬ (M : Int) + 1 + (tq : Int) ≤ (M : Int) + (N6 : Int) % 4 := by omega
     have hib : -100 ≤ (M : Int) + 1 + (tq : Int) ∧ (M : Int) + 1 + (tq : Int) ≤ 100 := by omega
     clear hlt ht hem hte
     generalize (M : Int) + 1 + (tq : Int) = ii at *
     obtain ⟨hib1, hib2⟩ := hib
     go_wp2_with fail
     refine HPM.out.mono ?_
     rintro e w9 ⟨rfl, rfl⟩
     clear HPM HB1 hm0 hm0' hm1z hm1 hm4
     obtain ⟨z, hz⟩ : ∃ z, (N6 : Int) % 4 = z := ⟨_, rfl⟩
     have td : (N6 : Int).tmod 4 = z := by rw [← hz]; exact Int.tmod_eq_emod_of_nonneg (by omega)
     have hz1 : 0 ≤ z := by omega
     have hz2 : z ≤ 3 := by omega
     rw [hz] at h2
     have tw1 : IntKind.i64.wrap z = z := IntWalk.i64_in _ (by omega)
     have tw2 : IntKind.i64.wrap ((M : Int) + z) = (M : Int) + z := IntWalk.i64_in _ (by omega)
     have hb : decide (ii ≤ (M : Int) + z) = false := decide_eq_false (by omega)
     clear h2 hz p6 p6z hm4z
     go_wp2
     go_meet
     case rel => exact ⟨cc, by rw [HEM.out, ← HTE.out]; exact HCR.out, HCC.out⟩
    ·clear hlt ht hem hte
     generalize (M : Int) + 1 + (tq : Int) = ii at *
     go_wp2
     go_meet
     case rel => exact ⟨cc, by rw [HEM.out, ← HTE.out]; exact HCR.out, HCC.out⟩
 case rest =>
  obtain ⟨c', hcore, hcs⟩ := hcut
  (try simp only [Exit.inBlock, Exit.then])
  apply_assumption
  exact of_frame236 _ rfl (conf_tail7 L a c w wc b5 _ rfl rfl (by rw [HM.out]; rfl) rfl c' hcore hcs HS.out HL.out)
end Go.Proofs.YtmpciohmljpncaaGreatDoor
namespace Go.Proofs.YtmpciohmljpncaaGreatDoor
open Go.ChangeShapes Go.WideShapes Go.ChangeAt Go.RowKit Go.Lib Go.Shelf
/-- a service that is being made: its numbers, its kids' row -/
def SvcBox (w : World) (b m k : Nat) (kv : Value) : Prop := w.heap[b]? = some (.cells #[.int .i64 ((m : Int) + 1), kv, .int .i64 (1 + (k : Int) % 6), .int .i64 (1 + (k : Int) / 6 % 3), .int .i64 (1 + (k : Int) / 18 % 6), .int .i64 (1 + (k : Int) / 108 % 3), .int .i64 ((k : Int) / 324 % 4)] 35 (0, 0))
theorem SvcBox.grown {w w1 w6 : World} {b m k base n : Nat} {kv : Value} {xs : List Value} (h : SvcBox w b m k kv) (e : Ext w w1) (ho : w.ownsRow base 9 1 kv n xs) (hg : w1.grownBy w6 kv.ownBlock) : SvcBox w6 b m k kv := by
 have hne : ¬ kv.ownBlock = some b := fun hk => absurd (owns_type ho hk h) (by decide)
 have hl := (Array.getElem?_eq_some_iff.1 h).1
 exact ((Keeps.of_grown (X := fun q => kv.ownBlock = some q) hg (fun _ h => h)).block b (Nat.lt_of_lt_of_le hl e.size) hne).trans ((e.block b hl).trans h)
set_option maxRecDepth 100000 in
set_option maxHeartbeats 16000000 in
theorem conf_tail4 (L : List Int) (a : Option Addr) (c : Nat) (w W : World) (b5 : Nat) (x : Nat → Value) (e0 : x 0 = .slice a L.length c) (e2 : x 2 = .pointer (some ⟨w.heap.size, 0, none⟩)) (e4 : x 4 = .int .i64 (svcsM L : Nat)) (e5 : x 5 = .pointer (some ⟨b5, 0, none⟩)) (hcs : CS w W w.heap.size b5 (conf0 L)) (hs : Ints w (.slice a L.length c) L) (hL : ∀ x ∈ L, I64 x) :
  Code.wp Tryz.prog (confTail 4) (bodyPost Tryz.prog Tryz.f4 (ConfP L w)) ⟨frameOf 236 x, []⟩ W := by
 conv => arg 2; whnf
 rw [frame236]
 simp only [e0, e2, e4, e5]
 clear e0 e2 e4 e5
 have hm := svcsM_bd L
 obtain ⟨M, hM⟩ : ∃ M, svcsM L = M := ⟨_, rfl⟩
 have HP1 := hide (fun X (hX : Ext w X) => (pick_any L 1 (.slice a L.length c) X (hs.ext hX) hL : Calls Tryz.prog 8 #[.slice a L.length c, .int .i64 1] X _))
 have HPK := hide (fun k X (hX : Ext w X) => pick_any L k (.slice a L.length c) X (hs.ext hX) hL)
 have HS := hide hs
 have HL := hide hL
 have HCS := hide hcs
 have p1 := pk_lt L 1
 obtain ⟨N1, hN1⟩ : ∃ N, pk L 1 = N := ⟨_, rfl⟩
 rw [hN1] at HP1 p1
 have HN1 := hide hN1
 have HM := hide hM
 rw [hM] at hm ⊢
 obtain ⟨hm1, hm4⟩ := hm
 have p1z : (N1 : Int) < 1000000 := by omega
 obtain ⟨lf, hlf⟩ : ∃ lf, (conf0 L).life = lf := ⟨_, rfl⟩
 have hlb : 60 ≤ lf ∧ lf ≤ 260 := by
  rw [← hlf]
  show 60 ≤ 60 + (pk L 0 : Int) / 3456 % 200 ∧ 60 + (pk L 0 : Int) / 3456 % 200 ≤ 260
  omega
 obtain ⟨hlb1, hlb2⟩ := hlb
 have c16 : W.cell? ⟨b5, 16, none⟩ = some (.int .i64 lf) := hcs.box.cell 16 _ (by rw [← hlf]; rfl)
 have c18 : W.cell? ⟨b5, 18, none⟩ = some (.int .i64 0) := hcs.box.cell 18 _ rfl
 have z18 := hcs.box.frozen 18
 have HLF := hide hlf
 clear hcs hN1 hM hs hL hlf
 have td1 : (N1 : Int).tdiv 28 = (N1 : Int) / 28 := Int.tdiv_eq_ediv_of_nonneg (by omega)
 have td2 : ((N1 : Int) / 28).tmod 300 = (N1 : Int) / 28 % 300 := Int.tmod_eq_emod_of_nonneg (by omega)
 have tw1 : IntKind.i64.wrap ((N1 : Int) / 28) = (N1 : Int) / 28 := IntWalk.i64_in _ (by omega)
 have tw2 : IntKind.i64.wrap ((N1 : Int) / 28 % 300) = (N1 : Int) / 28 % 300 := IntWalk.i64_in _ (by omega)
 have tw3 : IntKind.i64.wrap (lf + (N1 : Int) / 28 % 300) = lf + (N1 : Int) / 28 % 300 := IntWalk.i64_in _ (by omega)
 go_upto_region 4 with (fail)
 have hc : ∀ X, Ext W.drew X → X.cell? ⟨b5, 16, none⟩ = some (.int .i64 lf) := fun X hX => (hX.cell (p := ⟨b5, 16, none⟩) HCS.out.box.lt).trans c16
 have hc2 : ∀ v, (W.setCell ⟨b5, 18, none⟩ v).drew.cell? ⟨b5, 16, none⟩ = some (.int .i64 lf) := fun v => by
  have hs := ArrB.set HCS.out.box 18 v
  exact ArrB.cell (w := (W.setCell ⟨b5, 18, none⟩ v).drew) hs 16 _ (by rw [← HLF.out]; rfl)
 have HC := hide hc
 have HC2 := hide hc2
 clear hc hc2
 go_region_held3 (fun w' => w'.cell? ⟨b5, 16, none⟩ = some (.int .i64 lf))
  (first
   | exact HC.out _ (Below.refl _ _)
   | exact HC2.out _)
  (first
   | (go_at_call 8; refine (HP1.out _ (HCS.out.ext.trans (Below.refl _ _).drew)).mono ?_; rintro e w8 ⟨rfl, rfl⟩))
 have hcs1 : CS w (W.setCell ⟨b5, 18, none⟩ (.int .i64 (lf + (N1 : Int) / 28 % 300))).drew w.heap.size b5 (confA L 0) :=
  (HCS.out.set 18 (.int .i64 (lf + (N1 : Int) / 28 % 300)) (confA L 0) (by rw [← HLF.out, ← HN1.out]; rfl) ⟨HCS.out.own.s, HCS.out.own.k, HCS.out.own.e, HCS.out.own.r, HCS.out.own.rr, HCS.out.own.t⟩).keep ((Below.refl _ _).drew)
 generalize (W.setCell ⟨b5, 18, none⟩ (.int .i64 (lf + (N1 : Int) / 28 % 300))).drew = W1 at hcs1 ⊢
 have HCS1 := hide hcs1
 clear hcs1 c16 c18 z18 HC HC2 HCS HLF HN1 HP1 td1 td2 tw1 tw2 tw3
 go_upto_block 0 with fail
 go_cut [6, 7, 8, 9] from 61 to 131 (fun _ _ _ _ w' => ∃ c', c'.cor2 = confA L M ∧ CS w w' w.heap.size b5 c')
 case first =>
  go_wp2_with fail
  go_loopw [6] (fun v6 wr => ∃ (m : Nat) (cc : ConfD), v6 = .int .i64 ((m : Int) + 1) ∧ m ≤ M ∧ Hid (cc.cor2 = confA L m) ∧ Hid (CS w wr w.heap.size b5 cc)) (fun i _ => (M + 1 : Nat) - (intOf i).toNat)
  case atStart => exact ⟨0, confA L 0, rfl, by omega, rfl, HCS1.out⟩
  case round =>
   obtain ⟨m, cc, rfl, hmM, hcore, hcs⟩ := hrel
   have HCR := hide hcore.out
   have HCC := hide hcs.out
   clear hcore hcs
   generalize wr = wo at *
   by_cases hlt : m < M
   ·have hle : ((m : Int) + 1) ≤ M := by omega
    have hpk := HPK.out (1 + (m + 1)) wo HCC.out.ext
    have hcast : ((1 + (m + 1) : Nat) : Int) = 1 + ((m : Int) + 1) := by omega
    rw [hcast] at hpk
    have hkb := pk_lt L (1 + (m + 1))
    obtain ⟨k, hk⟩ : ∃ k, pk L (1 + (m + 1)) = k := ⟨_, rfl⟩
    rw [hk] at hpk hkb
    have HPM := hide hpk
    have HKE := hide hk
    have hkz : (k : Int) < 1000000 := by omega
    clear hpk hcast hk
    go_wp2_with fail
    refine HPM.out.mono ?_
    rintro e w8 ⟨rfl, rfl⟩
    clear HPM
    go_upto_block 2 with fail
    have hb8 := heap_alloc_new wo (.cells #[.int .i64 ((m : Int) + 1), .slice none 0 0, .int .i64 (1 + (k : Int) % 6), .int .i64 (1 + (k : Int) / 6 % 3), .int .i64 (1 + (k : Int) / 18 % 6), .int .i64 (1 + (k : Int) / 108 % 3), .int .i64 ((k : Int) / 324 % 4)] 35)
    have hE8 : Ext wo (wo.alloc (.cells #[.int .i64 ((m : Int) + 1), .slice none 0 0, .int .i64 (1 + (k : Int) % 6), .int .i64 (1 + (k : Int) / 6 % 3), .int .i64 (1 + (k : Int) / 18 % 6), .int .i64 (1 + (k : Int) / 108 % 3), .int .i64 ((k : Int) / 324 % 4)] 35)) := (Below.refl _ _).alloc (Nat.le_refl _) _
    generalize wo.alloc (.cells #[.int .i64 ((m : Int) + 1), .slice none 0 0, .int .i64 (1 + (k : Int) % 6), .int .i64 (1 + (k : Int) / 6 % 3), .int .i64 (1 + (k : Int) / 18 % 6), .int .i64 (1 + (k : Int) / 108 % 3), .int .i64 ((k : Int) / 324 % 4)] 35) = W8 at hb8 hE8 ⊢
    have HB8 := hide hb8
    have HE8 := hide hE8
    clear hb8 hE8
    go_cut [9] from 90 to 112 (fun _ w' => ∃ kv, Hid (SvcBox w' wo.heap.size m k kv) ∧ Hid (w'.ownsRow wo.heap.size 9 1 kv (kidsN k (m + 1) (k / 1296 % 3)).length ((kidsN k (m + 1) (k / 1296 % 3)).flatMap encS)) ∧ Ext wo w')
    case first =>
     go_wp2_with fail
     go_loopw [9] (fun v9 wq => ∃ (j : Nat) (kv : Value), v9 = .int .i64 j ∧ j ≤ k / 1296 % 3 ∧ Hid (SvcBox wq wo.heap.size m k kv) ∧ Hid (wq.ownsRow wo.heap.size 9 1 kv (kidsN k (m + 1) j).length ((kidsN k (m + 1) j).flatMap encS)) ∧ Ext wo wq) (fun j _ => 3 - (intOf j).toNat)
     case atStart => exact ⟨0, .slice none 0 0, rfl, by omega, HB8.out, World.ownsRow_nil _ _ _ _, HE8.out⟩
     case round =>
      obtain ⟨j, kv, rfl, hj, hbx, hkv, hext⟩ := hrel
      have HBX := hide hbx.out
      have HKV := hide hkv.out
      have HX := hide hext
      clear hbx hkv hext
      by_cases hjl : j < k / 1296 % 3
      ·have hjz : (j : Int) < (k : Int) / 1296 % 3 := by omega
       have hjs : j < 3 := by omega
       obtain ⟨dn, hdn⟩ : ∃ d, (k / 3888 + j + (m + 1)) % 4 = d := ⟨_, rfl⟩
       have hdn4 : dn < 4 := by omega
       have hsc := kidsN_succ k (m + 1) j
       rw [hdn] at hsc
       have hKl : (kidsN k (m + 1) j).length = j := by simp [kidsN]
       obtain ⟨q, hq⟩ : ∃ q, k / 3888 = q := ⟨_, rfl⟩
       have hq3 : q < 300 := by omega
       have s1 : (k : Int).tdiv 3888 = (q : Int) := by rw [Int.tdiv_eq_ediv_of_nonneg (by omega)]; omega
       have s2 : IntKind.i64.wrap (q : Int) = (q : Int) := IntWalk.i64_in _ (by omega)
       have s3 : IntKind.i64.wrap ((q : Int) + (j : Int)) = (q : Int) + (j : Int) := IntWalk.i64_in _ (by omega)
       have s4 : IntKind.i64.wrap ((q : Int) + (j : Int) + ((m : Int) + 1)) = (q : Int) + (j : Int) + ((m : Int) + 1) := IntWalk.i64_in _ (by omega)
       have s5 : ((q : Int) + (j : Int) + ((m : Int) + 1)).tmod 4 = (dn : Int) := by rw [Int.tmod_eq_emod_of_nonneg (by omega)]; omega
       have s6 : IntKind.i64.wrap (dn : Int) = (dn : Int) := IntWalk.i64_in _ (by omega)
       have hdnz : (dn : Int) < 4 := by omega
       obtain ⟨kd, hkd⟩ : ∃ kd, kidP dn = kd := ⟨_, rfl⟩
       have hArr : (wr.alloc (.cells #[.string ⟨#[47, 97]⟩, .string ⟨#[47, 98]⟩, .string ⟨#[47, 99, 47, 97]⟩, .string ⟨#[47, 97, 98]⟩] 9)).cell? ⟨wr.heap.size, dn, none⟩ = some (.string kd) := by
        rw [World.cell?, heap_alloc_new, ← hkd]
        rcases (by omega : dn = 0 ∨ dn = 1 ∨ dn = 2 ∨ dn = 3) with rfl | rfl | rfl | rfl <;> rfl
       rw [hkd] at hsc
       obtain ⟨KJ, hKJ⟩ : ∃ KJ, kidsN k (m + 1) j = KJ := ⟨_, rfl⟩
       rw [hKJ] at hsc HKV hKl
       obtain ⟨x9, y9, rfl⟩ := owns_shape HKV.out
       have HSC := hide hsc
       have HKL := hide hKl
       have c1 : wr.cell? ⟨wo.heap.size, 1, none⟩ = some (.slice x9 KJ.length y9) := ArrB.cell HBX.out 1 _ rfl
       have z1 := ArrB.frozen HBX.out 1
       have hlb := (Array.getElem?_eq_some_iff.1 HBX.out).1
       obtain ⟨is, his0, his1, his2, his3⟩ := info_partsS Tryz.infoS
       have hkl3 : KJ.length < 3 := by omega
       have hxo := HX.out.size
       clear hsc hKl hKJ hkd hq hdn hkb hle hlt hmM hj
       go_upto_region 13 with (fail)
       go_region_law (first
        | (refine step_append_own (by rfl) _ _ _ (by rfl) wo.heap.size 9 is _ 1 16 Tryz.underlying33 his0 his1 his2 his3 rfl (by omega) (.slice x9 KJ.length y9) KJ.length _ (by rfl) (((HKV.out.alloc _).alloc _).drew) ⟨wr.heap.size + 1, 0, none⟩ 1 1 [.string kd] (by rfl) (by rfl) (World.news_of_block (cs := #[.string kd]) (t := 9) (fr := (0, 0)) (heap_second wr _ _)) (by simp [Value.oneCell']) (by unfold maxLen; omega) (by omega) (by simp; omega) ?_; intro v2 w6 hown2 hgrow2 _; obtain ⟨a2, c2, rfl⟩ := owns_shape hown2; have hB6 := SvcBox.grown HBX.out (((Below.refl _ wr).alloc (Nat.le_refl _) _).alloc (by simp) _).drew HKV.out hgrow2; have cv6 := ArrB.cell hB6 1 _ rfl; have fv6 := ArrB.frozen hB6 1))
       all_goals
        have hE6 : Ext wo w6 := Keeps.ext (HX.out.trans (((Below.refl _ wr).alloc (Nat.le_refl _) _).alloc (by simp) _).drew) (Keeps.of_grown (X := fun q => (Value.slice x9 KJ.length y9).ownBlock = some q) hgrow2 (fun _ h => h)) (fun g hg => (HKV.out.lt g hg).1)
        have hbx7 : SvcBox (w6.setCell ⟨wo.heap.size, 1, none⟩ (.slice a2 (KJ.length + 1) c2)) wo.heap.size m k (.slice a2 (KJ.length + 1) c2) := ArrB.set hB6 1 _
        have hk7 := Keeps.of_set (X := fun g => g = wo.heap.size) w6 wo.heap.size 1 (.slice a2 (KJ.length + 1) c2) rfl
        have hown7 := owns_keepT hown2 hk7 (OfT.one hB6) (by decide)
        have HE7 := hide (Keeps.ext hE6 hk7 (fun g hg => by omega))
        have HBX7 := hide hbx7
        have HOW7 := hide hown7
        clear cv6 fv6 hB6 hown2 hgrow2 hbx7 hk7 hown7 hE6 c1 z1 hArr
        go_wp2
        go_roundw
        case rel => exact ⟨j + 1, _, by go_num, by omega, HBX7.out, (by show World.ownsRow _ _ _ _ _ _ _; rw [HSC.out]; simpa [encS] using HOW7.out), HE7.out⟩
        case measure => simp [intOf] <;> omega
      ·have hje : j = k / 1296 % 3 := by omega
       have hjz : ¬ (j : Int) < (k : Int) / 1296 % 3 := by omega
       have HJE := hide hje
       clear hje hjl hj
       go_wp2
       go_meet
       case rel => exact ⟨kv, HBX.out, (by rw [← HJE.out]; exact HKV.out), HX.out⟩
    case rest =>
     obtain ⟨kv, hbx, hkv, hx⟩ := hcut
     have hbx := hbx.out
     have hkv := hkv.out
     obtain ⟨s, hs⟩ : ∃ s : SvcD, s = { svcN L (m + 1) with kv := kv } := ⟨_, rfl⟩
     have hev : encV s = [.int .i64 ((m : Int) + 1), kv, .int .i64 (1 + (k : Int) % 6), .int .i64 (1 + (k : Int) / 6 % 3), .int .i64 (1 + (k : Int) / 18 % 6), .int .i64 (1 + (k : Int) / 108 % 3), .int .i64 ((k : Int) / 324 % 4)] := by rw [hs]; unfold encV svcN; rw [HKE.out]; rfl
     have hsK : s.K = kidsN k (m + 1) (k / 1296 % 3) := by rw [hs]; show kidsN (pk L (1 + (m + 1))) (m + 1) (pk L (1 + (m + 1)) / 1296 % 3) = _; rw [HKE.out]
     have hskv : s.kv = kv := by rw [hs]
     have hscore : s.core = svcN L (m + 1) := by rw [hs]; rfl
     have hC := HCC.out.keep hx
     have hos : wc.ownsRow w.heap.size 9 1 s.kv s.K.length (s.K.flatMap encS) := by rw [hskv, hsK]; exact owns_le hkv (HCC.out.ext.size)
     obtain ⟨ka, kc, hkvs⟩ := owns_shape hkv
     have hshp : ∃ a n c, s.kv = .slice a n c := ⟨_, _, _, hskv.trans hkvs⟩
     have hSl : cc.S.length = m := by
      have := congrArg (fun c => c.S.length) HCR.out
      simpa [ConfD.cor2, ConfD.core, confA, svcsN_len] using this
     have hEl : cc.E.length = m := by
      have := congrArg (fun c => c.E.length) HCR.out
      simpa [ConfD.cor2, ConfD.core, confA, endsA_len] using this
     have hrg : wc.rangeAt wo.heap.size 0 [.int .i64 ((m : Int) + 1), kv, .int .i64 (1 + (k : Int) % 6), .int .i64 (1 + (k : Int) / 6 % 3), .int .i64 (1 + (k : Int) / 18 % 6), .int .i64 (1 + (k : Int) / 108 % 3), .int .i64 ((k : Int) / 324 % 4)] := fun j v hv => by rw [Nat.zero_add]; exact ArrB.cell hbx j v (by simpa using hv)
     obtain ⟨sa, sc, hsv⟩ := owns_shape hC.own.s
     have c0 : wc.cell? ⟨b5, 0, none⟩ = some (.slice sa cc.S.length sc) := by have := hC.box.cell 0 cc.sv rfl; rw [hsv] at this; exact this
     obtain ⟨iv, zv, hiv0, hiv1, hiv2, hiv3, hiv4⟩ := info_partsN Tryz.infoV
     obtain ⟨dv, hdv1, hdv2⟩ := Tryz.svcDesc
     have HC := hide hC
     have HOS := hide hos
     have HEV := hide hev
     have HSHP := hide hshp
     have HSCO := hide hscore
     have HSL := hide (show cc.S.length ≤ 4 by omega)
     have HEL := hide (show cc.E.length ≤ 4 by omega)
     have HRG := hide hrg
     have HSV := hide hsv
     have HLT := hide hlt
     clear hC hos hev hshp hscore hsK hskv hs hSl hEl hrg hsv hkv hbx hx hkvs hlt hle hmM hkb
     go_upto_region 14 with (fail)
     refine wp_region_lit ?_
     refine wpList_plain rfl fun K hK => ?_
     go_simp
     refine hK _ _ ?_
     refine wpList_plain rfl fun K hK => ?_
     go_simp
     refine hK _ _ ?_
     refine wpList_load_mid rfl 35 (.tmp 8) rfl wo.heap.size 0 rfl [.int .i64 ((m : Int) + 1), kv, .int .i64 (1 + (k : Int) % 6), .int .i64 (1 + (k : Int) / 6 % 3), .int .i64 (1 + (k : Int) / 18 % 6), .int .i64 (1 + (k : Int) / 108 % 3), .int .i64 ((k : Int) / 324 % 4)] dv HRG.out hdv1 hdv2 Tryz.svcSize ?_
     refine wpList_plain rfl fun K hK => ?_
     go_simp
     refine hK _ _ ?_
     have hxa : Ext wc (wc.alloc (.cells #[.int .i64 ((m : Int) + 1), kv, .int .i64 (1 + (k : Int) % 6), .int .i64 (1 + (k : Int) / 6 % 3), .int .i64 (1 + (k : Int) / 18 % 6), .int .i64 (1 + (k : Int) / 108 % 3), .int .i64 ((k : Int) / 324 % 4)] 35)) := (Below.refl _ _).alloc (Nat.le_refl _) _
     refine wpList_append_sl (enc := encV) rfl _ _ _ rfl w.heap.size 35 iv zv 7 72 Tryz.underlying23 hiv0 hiv1 hiv2 hiv3 hiv4 (by decide) encV_len (.slice sa cc.S.length sc) cc.S.length (cc.S.flatMap encV) rfl (by have := owns_ext HC.out.own.s hxa; rw [HSV.out] at this; exact this) _ rfl [s] (sl_new1 encV_len wc s 35 _ HEV.out) (fun x hx => by rw [List.mem_singleton.1 hx]; exact encV_one HSHP.out) (by have := HSL.out; unfold maxLen; simp; omega) (by have := HSL.out; simp; omega) (Nat.le_trans HC.out.ext.size hxa.size) ?_
     intro v7 w7 hown7 hg7
     have hown7 : w7.ownsRow w.heap.size 35 7 v7 (cc.S.length + 1) (cc.S.flatMap encV ++ [s].flatMap encV) := hown7
     obtain ⟨a7, y7, rfl⟩ := owns_shape hown7
     have hk7 : Keeps (fun q => cc.sv.ownBlock = some q) wc w7 := (Keeps.of_ext hxa).trans (Keeps.of_grown hg7 (fun q h => by rw [HSV.out]; exact h))
     have hn5 : ¬ cc.sv.ownBlock = some b5 := fun e => absurd (owns_type HC.out.own.s e HC.out.box) (by decide)
     have hb7 := HC.out.box.keep (hk7.block b5 HC.out.box.lt hn5)
     have c7 : w7.cell? ⟨b5, 0, none⟩ = some cc.sv := hb7.cell 0 _ rfl
     have z7 := hb7.frozen 0
     have hC2 := HC.out.addS (s := s) hk7 hown7 HOS.out
     have HC2 := hide hC2
     clear hC2 hb7 hn5 hk7 hown7 hg7 hxa c0 HRG HOS
     refine wpList_plain rfl fun K hK => ?_
     go_simp
     refine hK _ _ ?_
     refine wpList_plain rfl fun K hK => ?_
     go_simp
     refine hK _ _ ?_
     refine wpList_nil ?_
     obtain ⟨c2, hc2⟩ : ∃ c2 : ConfD, ({ cc with sv := .slice a7 (cc.S.length + 1) y7, S := cc.S ++ [s] } : ConfD) = c2 := ⟨_, rfl⟩
     have hC2 := HC2.out
     have hcore2 : c2.cor2 = { confA L m with S := svcsN L (m + 1) } := by
      rw [← hc2, svcsN_succ, ← HSCO.out]
      show ({ cc.cor2 with S := (cc.S ++ [s]).map SvcD.core } : ConfD) = _
      have e : cc.cor2.S = svcsN L m := by rw [HCR.out]; rfl
      have e2 : cc.S.map SvcD.core = svcsN L m := e
      rw [List.map_append, e2, HCR.out]
      rfl
     have hE2 : c2.E.length ≤ 4 := by rw [← hc2]; exact HEL.out
     rw [hc2] at hC2
     generalize w7.setCell ⟨b5, 0, none⟩ (.slice a7 (cc.S.length + 1) y7) = W15 at hC2 ⊢
     obtain ⟨ea, ec, hev2⟩ := owns_shape hC2.own.e
     have c1 : W15.cell? ⟨b5, 1, none⟩ = some (.slice ea c2.E.length ec) := by have := hC2.box.cell 1 c2.ev rfl; rw [hev2] at this; exact this
     obtain ⟨ie, ze, hie0, hie1, hie2, hie3, hie4⟩ := info_partsN Tryz.infoE
     have tf0 : (k : Int).tdiv 7 = (k : Int) / 7 := Int.tdiv_eq_ediv_of_nonneg (by omega)
     have tf1 : IntKind.i64.wrap ((k : Int) / 7) = (k : Int) / 7 := IntWalk.i64_in _ (by omega)
     have tf2 : ((k : Int) / 7).tmod 2 = (k : Int) / 7 % 2 := Int.tmod_eq_emod_of_nonneg (by omega)
     have tf3 : IntKind.i64.wrap ((k : Int) / 7 % 2) = (k : Int) / 7 % 2 := IntWalk.i64_in _ (by omega)
     have tf4 : IntKind.i64.wrap (1 + (k : Int) / 7 % 2) = 1 + (k : Int) / 7 % 2 := IntWalk.i64_in _ (by omega)
     have hee : encE (endA L (m + 1)) = [.int .i64 ((m : Int) + 1), .int .i64 ((m : Int) + 1), .int .i64 (1 + (k : Int) / 7 % 2)] := by unfold encE endA; rw [HKE.out]; rfl
     have HC := hide hC2
     have HCO := hide hcore2
     have HEE := hide hee
     have HEV2 := hide hev2
     have HEL2 := hide hE2
     clear hC2 hcore2 hee hev2 hE2 hc2 HC2 HSV HSL HEL HSCO HSHP HEV HCR HCC c7 z7
     go_upto_region 15 with (fail)
     refine wp_region_lit ?_
     refine wpList_plain rfl fun K hK => ?_
     go_simp
     refine hK _ _ ?_
     refine wpList_plain rfl fun K hK => ?_
     go_simp
     refine hK _ _ ?_
     refine wpList_plain rfl fun K hK => ?_
     go_simp
     refine hK _ _ ?_
     refine wpList_plain rfl fun K hK => ?_
     go_simp
     refine hK _ _ ?_
     refine wpList_plain rfl fun K hK => ?_
     go_simp
     refine hK _ _ ?_
     refine wpList_plain rfl fun K hK => ?_
     go_simp
     refine hK _ _ ?_
     refine wpList_plain rfl fun K hK => ?_
     go_simp
     refine hK _ _ ?_
     refine wpList_plain rfl fun K hK => ?_
     go_simp
     refine hK _ _ ?_
     refine wpList_plain rfl fun K hK => ?_
     go_simp
     refine hK _ _ ?_
     refine wpList_plain rfl fun K hK => ?_
     go_simp
     refine hK _ _ ?_
     have hxa : Ext W15 (W15.alloc (.cells #[.int .i64 ((m : Int) + 1), .int .i64 ((m : Int) + 1), .int .i64 (1 + (k : Int) / 7 % 2)] 41)) := (Below.refl _ _).alloc (Nat.le_refl _) _
     refine wpList_append_sl (enc := encE) rfl _ _ _ rfl w.heap.size 41 ie ze 3 24 Tryz.underlying24 hie0 hie1 hie2 hie3 hie4 (by decide) encE_len (.slice ea c2.E.length ec) c2.E.length (c2.E.flatMap encE) rfl (by have := owns_ext HC.out.own.e hxa; rw [HEV2.out] at this; exact this) _ rfl [endA L (m + 1)] (sl_new1 encE_len W15 (endA L (m + 1)) 41 _ HEE.out) (fun x _ => encE_one x) (by have := HEL2.out; unfold maxLen; simp; omega) (by have := HEL2.out; simp; omega) (Nat.le_trans HC.out.ext.size hxa.size) ?_
     intro v8 w8 hown8 hg8
     have hown8 : w8.ownsRow w.heap.size 41 3 v8 (c2.E.length + 1) (c2.E.flatMap encE ++ [endA L (m + 1)].flatMap encE) := hown8
     obtain ⟨a8, y8, rfl⟩ := owns_shape hown8
     have hk8 : Keeps (fun q => c2.ev.ownBlock = some q) W15 w8 := (Keeps.of_ext hxa).trans (Keeps.of_grown hg8 (fun q h => by rw [HEV2.out]; exact h))
     have hn5 : ¬ c2.ev.ownBlock = some b5 := fun e => absurd (owns_type HC.out.own.e e HC.out.box) (by decide)
     have hb8 := HC.out.box.keep (hk8.block b5 HC.out.box.lt hn5)
     have c8 : w8.cell? ⟨b5, 1, none⟩ = some c2.ev := hb8.cell 1 _ rfl
     have z8 := hb8.frozen 1
     have HC3 := hide (HC.out.addE (s := endA L (m + 1)) hk8 hown8)
     clear hb8 hn5 hk8 hown8 hg8 hxa c1
     refine wpList_plain rfl fun K hK => ?_
     go_simp
     refine hK _ _ ?_
     refine wpList_plain rfl fun K hK => ?_
     go_simp
     refine hK _ _ ?_
     refine wpList_nil ?_
     have hcore3 : ({ c2 with ev := .slice a8 (c2.E.length + 1) y8, E := c2.E ++ [endA L (m + 1)] } : ConfD).cor2 = confA L (m + 1) := by
      show ({ c2.cor2 with E := c2.cor2.E ++ [endA L (m + 1)] } : ConfD) = _
      rw [HCO.out]
      show ({ confA L m with S := svcsN L (m + 1), E := endsA L m ++ [endA L (m + 1)] } : ConfD) = _
      rw [← endsA_succ]
      rfl
     have HCO3 := hide hcore3
     have hm1' := HLT.out
     clear hcore3 c8 z8 tf0 tf1 tf2 tf3 tf4
     go_wp2
     go_roundw
     case rel => exact ⟨m + 1, _, (by show Value.int .i64 _ = Value.int .i64 _; congr 1), by omega, HCO3.out, HC3.out⟩
     case measure => simp [intOf] <;> omega
   ·obtain rfl : m = M := by omega
    have hle : ¬ ((m : Int) + 1) ≤ m := by omega
    clear hlt hmM
    go_wp2
    go_meet
    case rel => exact ⟨cc, HCR.out, HCC.out⟩
 case rest =>
  obtain ⟨c', hcore, hcs⟩ := hcut
  (try simp only [Exit.inBlock, Exit.then])
  apply_assumption
  exact of_frame236 _ rfl (conf_tail6 L a c w wc b5 _ rfl rfl (by rw [HM.out]; rfl) rfl c' (by rw [HM.out]; exact hcore) hcs HS.out HL.out)
end Go.Proofs.YtmpciohmljpncaaGreatDoor
namespace Go.Proofs.YtmpciohmljpncaaGreatDoor
open Go.ChangeShapes Go.WideShapes Go.ChangeAt Go.RowKit Go.Lib Go.Shelf
set_option maxRecDepth 100000 in
set_option maxHeartbeats 16000000 in
theorem conf_tail3 (L : List Int) (a : Option Addr) (c : Nat) (w W0 : World) (x : Nat → Value) (e0 : x 0 = .slice a L.length c) (e2 : x 2 = .pointer (some ⟨w.heap.size, 0, none⟩)) (e3 : x 3 = .int .i64 (pk L 0 : Nat)) (e4 : x 4 = .int .i64 (svcsM L : Nat)) (hE0 : Ext w W0) (hb0 : W0.heap[w.heap.size]? = some (.cells #[.slice none 0 0, .slice none 0 0, .slice none 0 0, .slice none 0 0, .int .i64 0, .int .i64 0, .int .i64 0, .int .i64 0, .int .i64 0, .int .i64 0, .int .i64 0, .int .i64 0, .int .i64 0, .int .i64 0, .int .i64 0, .int .i64 0, .int .i64 0, .int .i64 0, .int .i64 0, .int .i64 0] 30 (0, 0))) (hs : Ints w (.slice a L.length c) L) (hL : ∀ x ∈ L, I64 x) :
  Code.wp Tryz.prog (confTail 3) (bodyPost Tryz.prog Tryz.f4 (ConfP L w)) ⟨frameOf 236 x, []⟩ W0 := by
 conv => arg 2; whnf
 rw [frame236]
 simp only [e0, e2, e3, e4]
 clear e0 e2 e3 e4
 have HP1 := hide (fun X (hX : Ext w X) => (pick_any L 1 (.slice a L.length c) X (hs.ext hX) hL : Calls Tryz.prog 8 #[.slice a L.length c, .int .i64 1] X _))
 have HS := hide hs
 have HL := hide hL
 have HX0 := hide hE0
 have HB0 := hide hb0
 have p0 := pk_lt L 0
 have p1 := pk_lt L 1
 obtain ⟨N0, hN0⟩ : ∃ N, pk L 0 = N := ⟨_, rfl⟩
 obtain ⟨N1, hN1⟩ : ∃ N, pk L 1 = N := ⟨_, rfl⟩
 rw [hN0] at p0 ⊢
 rw [hN1] at HP1 p1
 have HN0 := hide hN0
 have HN1 := hide hN1
 have p0z : (N0 : Int) < 1000000 := by omega
 have p1z : (N1 : Int) < 1000000 := by omega
 clear hs hL hE0 hb0 hN0 hN1
 have tf0 : (N0 : Int).tdiv 4 = (N0 : Int) / 4 := Int.tdiv_eq_ediv_of_nonneg (by omega)
 have tf1 : IntKind.i64.wrap ((N0 : Int) / 4) = (N0 : Int) / 4 := IntWalk.i64_in _ (by omega)
 have tf2 : ((N0 : Int) / 4).tmod 3 = (N0 : Int) / 4 % 3 := Int.tmod_eq_emod_of_nonneg (by omega)
 have tf3 : IntKind.i64.wrap ((N0 : Int) / 4 % 3) = (N0 : Int) / 4 % 3 := IntWalk.i64_in _ (by omega)
 have tf4 : IntKind.i64.wrap ((N0 : Int) / 4 % 3 * 40) = (N0 : Int) / 4 % 3 * 40 := IntWalk.i64_in _ (by omega)
 have tf5 : (N0 : Int).tdiv 12 = (N0 : Int) / 12 := Int.tdiv_eq_ediv_of_nonneg (by omega)
 have tf6 : IntKind.i64.wrap ((N0 : Int) / 12) = (N0 : Int) / 12 := IntWalk.i64_in _ (by omega)
 have tf7 : ((N0 : Int) / 12).tmod 2 = (N0 : Int) / 12 % 2 := Int.tmod_eq_emod_of_nonneg (by omega)
 have tf8 : IntKind.i64.wrap ((N0 : Int) / 12 % 2) = (N0 : Int) / 12 % 2 := IntWalk.i64_in _ (by omega)
 have tf9 : IntKind.i64.wrap (1 + (N0 : Int) / 12 % 2) = 1 + (N0 : Int) / 12 % 2 := IntWalk.i64_in _ (by omega)
 have tf10 : (N0 : Int).tdiv 24 = (N0 : Int) / 24 := Int.tdiv_eq_ediv_of_nonneg (by omega)
 have tf11 : IntKind.i64.wrap ((N0 : Int) / 24) = (N0 : Int) / 24 := IntWalk.i64_in _ (by omega)
 have tf12 : ((N0 : Int) / 24).tmod 8 = (N0 : Int) / 24 % 8 := Int.tmod_eq_emod_of_nonneg (by omega)
 have tf13 : IntKind.i64.wrap ((N0 : Int) / 24 % 8) = (N0 : Int) / 24 % 8 := IntWalk.i64_in _ (by omega)
 have tf14 : IntKind.i64.wrap (3 + (N0 : Int) / 24 % 8) = 3 + (N0 : Int) / 24 % 8 := IntWalk.i64_in _ (by omega)
 have tf15 : (N0 : Int).tdiv 192 = (N0 : Int) / 192 := Int.tdiv_eq_ediv_of_nonneg (by omega)
 have tf16 : IntKind.i64.wrap ((N0 : Int) / 192) = (N0 : Int) / 192 := IntWalk.i64_in _ (by omega)
 have tf17 : ((N0 : Int) / 192).tmod 6 = (N0 : Int) / 192 % 6 := Int.tmod_eq_emod_of_nonneg (by omega)
 have tf18 : IntKind.i64.wrap ((N0 : Int) / 192 % 6) = (N0 : Int) / 192 % 6 := IntWalk.i64_in _ (by omega)
 have tf19 : (N0 : Int).tdiv 1152 = (N0 : Int) / 1152 := Int.tdiv_eq_ediv_of_nonneg (by omega)
 have tf20 : IntKind.i64.wrap ((N0 : Int) / 1152) = (N0 : Int) / 1152 := IntWalk.i64_in _ (by omega)
 have tf21 : ((N0 : Int) / 1152).tmod 3 = (N0 : Int) / 1152 % 3 := Int.tmod_eq_emod_of_nonneg (by omega)
 have tf22 : IntKind.i64.wrap ((N0 : Int) / 1152 % 3) = (N0 : Int) / 1152 % 3 := IntWalk.i64_in _ (by omega)
 have tf23 : IntKind.i64.wrap (1 + (N0 : Int) / 1152 % 3) = 1 + (N0 : Int) / 1152 % 3 := IntWalk.i64_in _ (by omega)
 have tf24 : (N0 : Int).tdiv 3456 = (N0 : Int) / 3456 := Int.tdiv_eq_ediv_of_nonneg (by omega)
 have tf25 : IntKind.i64.wrap ((N0 : Int) / 3456) = (N0 : Int) / 3456 := IntWalk.i64_in _ (by omega)
 have tf26 : ((N0 : Int) / 3456).tmod 200 = (N0 : Int) / 3456 % 200 := Int.tmod_eq_emod_of_nonneg (by omega)
 have tf27 : IntKind.i64.wrap ((N0 : Int) / 3456 % 200) = (N0 : Int) / 3456 % 200 := IntWalk.i64_in _ (by omega)
 have tf28 : IntKind.i64.wrap (60 + (N0 : Int) / 3456 % 200) = 60 + (N0 : Int) / 3456 % 200 := IntWalk.i64_in _ (by omega)
 have tf29 : (N1 : Int).tmod 7 = (N1 : Int) % 7 := Int.tmod_eq_emod_of_nonneg (by omega)
 have tf30 : IntKind.i64.wrap ((N1 : Int) % 7) = (N1 : Int) % 7 := IntWalk.i64_in _ (by omega)
 have tf31 : (N1 : Int).tdiv 7 = (N1 : Int) / 7 := Int.tdiv_eq_ediv_of_nonneg (by omega)
 have tf32 : IntKind.i64.wrap ((N1 : Int) / 7) = (N1 : Int) / 7 := IntWalk.i64_in _ (by omega)
 go_upto_region 3 with (fail)
 go_cut [5] from 19 to 53 (fun s5 w' => ∃ b5, s5 = .pointer (some ⟨b5, 0, none⟩) ∧ Ext W0 w' ∧ W0.heap.size ≤ b5 ∧ BoxC w' b5 (conf0 L))
 case first =>
  have hE4 : Ext W0 (W0.alloc (.cells #[.int .i64 100, .int .i64 50, .int .i64 0, .int .i64 100] 3)) := (Below.refl _ _).alloc (Nat.le_refl _) _
  have HE4 := hide hE4
  clear hE4
  refine wp_region_lit ?_
  have td2 : ((N1 : Int) / 7).tmod 4 = ((N1 / 7 % 4 : Nat) : Int) := by rw [Int.tmod_eq_emod_of_nonneg (by omega)]; omega
  have hd4 : N1 / 7 % 4 < 4 := by omega
  obtain ⟨d, hd⟩ : ∃ d, N1 / 7 % 4 = d := ⟨_, rfl⟩
  rw [hd] at td2 hd4
  have tdw : IntKind.i64.wrap (d : Int) = (d : Int) := IntWalk.i64_in _ (by omega)
  have hsc : (W0.alloc (.cells #[.int .i64 100, .int .i64 50, .int .i64 0, .int .i64 100] 3)).cell? ⟨W0.heap.size, d, none⟩ = some (.int .i64 (sampleN d)) := by
   rw [World.cell?, heap_alloc_new]
   rcases (by omega : d = 0 ∨ d = 1 ∨ d = 2 ∨ d = 3) with rfl | rfl | rfl | rfl <;> rfl
  have hd4z : (d : Int) < 4 := by omega
  have HD := hide hd
  clear hd
  refine wpList_plain rfl fun K hK => ?_
  go_simp
  refine hK _ _ ?_
  refine wpList_plain rfl fun K hK => ?_
  go_simp
  refine hK _ _ ?_
  refine wpList_plain rfl fun K hK => ?_
  go_simp
  refine hK _ _ ?_
  refine wpList_plain rfl fun K hK => ?_
  go_simp
  refine hK _ _ ?_
  refine wpList_plain rfl fun K hK => ?_
  go_simp
  refine hK _ _ ?_
  refine wpList_plain rfl fun K hK => ?_
  go_simp
  refine hK _ _ ?_
  refine wpList_plain rfl fun K hK => ?_
  go_simp
  refine hK _ _ ?_
  refine wpList_plain rfl fun K hK => ?_
  go_simp
  refine hK _ _ ?_
  refine wpList_plain rfl fun K hK => ?_
  go_simp
  refine hK _ _ ?_
  refine wpList_plain rfl fun K hK => ?_
  go_simp
  refine hK _ _ ?_
  refine wpList_plain rfl fun K hK => ?_
  go_simp
  refine hK _ _ ?_
  refine wpList_plain rfl fun K hK => ?_
  go_simp
  refine hK _ _ ?_
  refine wpList_plain rfl fun K hK => ?_
  go_simp
  refine hK _ _ ?_
  refine wpList_plain rfl fun K hK => ?_
  go_simp
  refine hK _ _ ?_
  refine wpList_plain rfl fun K hK => ?_
  go_simp
  refine hK _ _ ?_
  refine wpList_plain rfl fun K hK => ?_
  go_simp
  refine hK _ _ ?_
  refine wpList_plain rfl fun K hK => ?_
  go_simp
  refine hK _ _ ?_
  refine wpList_plain rfl fun K hK => ?_
  go_simp
  refine hK _ _ ?_
  refine wpList_plain rfl fun K hK => ?_
  go_simp
  refine hK _ _ ?_
  refine wpList_plain rfl fun K hK => ?_
  go_simp
  refine hK _ _ ?_
  refine wpList_plain rfl fun K hK => ?_
  go_simp
  refine hK _ _ ?_
  refine wpList_plain rfl fun K hK => ?_
  go_simp
  refine hK _ _ ?_
  refine wpList_plain rfl fun K hK => ?_
  go_simp
  refine hK _ _ ?_
  refine wpList_plain rfl fun K hK => ?_
  go_simp
  refine hK _ _ ?_
  refine wpList_plain rfl fun K hK => ?_
  go_simp
  refine (HP1.out _ HX0.out).mono ?_
  rintro e w1 ⟨rfl, rfl⟩
  refine hK _ _ ?_
  refine wpList_plain rfl fun K hK => ?_
  go_simp
  refine hK _ _ ?_
  refine wpList_plain rfl fun K hK => ?_
  go_simp
  refine hK _ _ ?_
  refine wpList_plain rfl fun K hK => ?_
  go_simp
  refine hK _ _ ?_
  refine wpList_plain rfl fun K hK => ?_
  go_simp
  refine (HP1.out _ (HX0.out.trans HE4.out)).mono ?_
  rintro e w1 ⟨rfl, rfl⟩
  refine hK _ _ ?_
  refine wpList_plain rfl fun K hK => ?_
  go_simp
  refine hK _ _ ?_
  refine wpList_plain rfl fun K hK => ?_
  go_simp
  refine hK _ _ ?_
  refine wpList_plain rfl fun K hK => ?_
  go_simp
  refine hK _ _ ?_
  refine wpList_plain rfl fun K hK => ?_
  go_simp
  refine hK _ _ ?_
  refine wpList_plain rfl fun K hK => ?_
  go_simp
  refine hK _ _ ?_
  refine wpList_plain rfl fun K hK => ?_
  go_simp
  refine hK _ _ ?_
  have hnb := heap_second W0 (.cells #[.int .i64 100, .int .i64 50, .int .i64 0, .int .i64 100] 3) (.cells #[.slice none 0 0, .slice none 0 0, .slice none 0 0, .slice none 0 0, .int .i64 0, .int .i64 0, .int .i64 0, .int .i64 0, .int .i64 0, .int .i64 0, .int .i64 0, .int .i64 0, .int .i64 0, .int .i64 0, .int .i64 0, .int .i64 0, .int .i64 0, .int .i64 0, .int .i64 0, .int .i64 0] 30)
  have hE5 : Ext W0 ((W0.alloc (.cells #[.int .i64 100, .int .i64 50, .int .i64 0, .int .i64 100] 3)).alloc (.cells #[.slice none 0 0, .slice none 0 0, .slice none 0 0, .slice none 0 0, .int .i64 0, .int .i64 0, .int .i64 0, .int .i64 0, .int .i64 0, .int .i64 0, .int .i64 0, .int .i64 0, .int .i64 0, .int .i64 0, .int .i64 0, .int .i64 0, .int .i64 0, .int .i64 0, .int .i64 0, .int .i64 0] 30)) := HE4.out.trans ((Below.refl _ _).alloc (Nat.le_refl _) _)
  generalize (W0.alloc (.cells #[.int .i64 100, .int .i64 50, .int .i64 0, .int .i64 100] 3)).alloc (.cells #[.slice none 0 0, .slice none 0 0, .slice none 0 0, .slice none 0 0, .int .i64 0, .int .i64 0, .int .i64 0, .int .i64 0, .int .i64 0, .int .i64 0, .int .i64 0, .int .i64 0, .int .i64 0, .int .i64 0, .int .i64 0, .int .i64 0, .int .i64 0, .int .i64 0, .int .i64 0, .int .i64 0] 30) = W5 at hnb hE5 ⊢
  have hth : W5.there (W0.heap.size + 1) 0 20 := fun j hj => by
   rw [Nat.zero_add]
   refine ⟨?_, by simp [World.frozen?, hnb]⟩
   simp only [World.cell?, hnb]
   simp [hj]
  refine wpList_store_mid rfl 30 (.tmp 5) (.tmp 52) rfl (W0.heap.size + 1) 0 #[.slice none 0 0, .slice none 0 0, .slice none 0 0, .slice none 0 0, .int .i64 0, .int .i64 0, .int .i64 0, .int .i64 0, .int .i64 0, .int .i64 0, .int .i64 0, .int .i64 ((N0 : Int) / 4 % 3 * 40), .int .i64 (1 + (N0 : Int) / 12 % 2), .int .i64 (3 + (N0 : Int) / 24 % 8), .int .i64 ((N0 : Int) / 192 % 6), .int .i64 (1 + (N0 : Int) / 1152 % 3), .int .i64 (60 + (N0 : Int) / 3456 % 200), .int .i64 ((N1 : Int) % 7), .int .i64 0, .int .i64 (sampleN d)] rfl rfl hth Tryz.confSize (by simp [Value.oneCell']) ?_
  refine wpList_nil ?_
  have hrs := World.rangeAt_setCells_same W5 (W0.heap.size + 1) 0 [.slice none 0 0, .slice none 0 0, .slice none 0 0, .slice none 0 0, .int .i64 0, .int .i64 0, .int .i64 0, .int .i64 0, .int .i64 0, .int .i64 0, .int .i64 0, .int .i64 ((N0 : Int) / 4 % 3 * 40), .int .i64 (1 + (N0 : Int) / 12 % 2), .int .i64 (3 + (N0 : Int) / 24 % 8), .int .i64 ((N0 : Int) / 192 % 6), .int .i64 (1 + (N0 : Int) / 1152 % 3), .int .i64 (60 + (N0 : Int) / 3456 % 200), .int .i64 ((N1 : Int) % 7), .int .i64 0, .int .i64 (sampleN d)] hth
  obtain ⟨cs, hcs1, hcs2⟩ := setCells_block (W0.heap.size + 1) 30 (0, 0) [.slice none 0 0, .slice none 0 0, .slice none 0 0, .slice none 0 0, .int .i64 0, .int .i64 0, .int .i64 0, .int .i64 0, .int .i64 0, .int .i64 0, .int .i64 0, .int .i64 ((N0 : Int) / 4 % 3 * 40), .int .i64 (1 + (N0 : Int) / 12 % 2), .int .i64 (3 + (N0 : Int) / 24 % 8), .int .i64 ((N0 : Int) / 192 % 6), .int .i64 (1 + (N0 : Int) / 1152 % 3), .int .i64 (60 + (N0 : Int) / 3456 % 200), .int .i64 ((N1 : Int) % 7), .int .i64 0, .int .i64 (sampleN d)] 0 W5 _ hnb
  have hk5 := keeps_setCells (W0.heap.size + 1) [.slice none 0 0, .slice none 0 0, .slice none 0 0, .slice none 0 0, .int .i64 0, .int .i64 0, .int .i64 0, .int .i64 0, .int .i64 0, .int .i64 0, .int .i64 0, .int .i64 ((N0 : Int) / 4 % 3 * 40), .int .i64 (1 + (N0 : Int) / 12 % 2), .int .i64 (3 + (N0 : Int) / 24 % 8), .int .i64 ((N0 : Int) / 192 % 6), .int .i64 (1 + (N0 : Int) / 1152 % 3), .int .i64 (60 + (N0 : Int) / 3456 % 200), .int .i64 ((N1 : Int) % 7), .int .i64 0, .int .i64 (sampleN d)] 0 W5
  show Exit.then _ _ _ _ (W5.setCells (W0.heap.size + 1) 0 [.slice none 0 0, .slice none 0 0, .slice none 0 0, .slice none 0 0, .int .i64 0, .int .i64 0, .int .i64 0, .int .i64 0, .int .i64 0, .int .i64 0, .int .i64 0, .int .i64 ((N0 : Int) / 4 % 3 * 40), .int .i64 (1 + (N0 : Int) / 12 % 2), .int .i64 (3 + (N0 : Int) / 24 % 8), .int .i64 ((N0 : Int) / 192 % 6), .int .i64 (1 + (N0 : Int) / 1152 % 3), .int .i64 (60 + (N0 : Int) / 3456 % 200), .int .i64 ((N1 : Int) % 7), .int .i64 0, .int .i64 (sampleN d)])
  generalize W5.setCells (W0.heap.size + 1) 0 [.slice none 0 0, .slice none 0 0, .slice none 0 0, .slice none 0 0, .int .i64 0, .int .i64 0, .int .i64 0, .int .i64 0, .int .i64 0, .int .i64 0, .int .i64 0, .int .i64 ((N0 : Int) / 4 % 3 * 40), .int .i64 (1 + (N0 : Int) / 12 % 2), .int .i64 (3 + (N0 : Int) / 24 % 8), .int .i64 ((N0 : Int) / 192 % 6), .int .i64 (1 + (N0 : Int) / 1152 % 3), .int .i64 (60 + (N0 : Int) / 3456 % 200), .int .i64 ((N1 : Int) % 7), .int .i64 0, .int .i64 (sampleN d)] = W6 at hrs hcs1 hk5 ⊢
  have hbx : BoxC W6 (W0.heap.size + 1) (conf0 L) := BoxC.of_range hcs1 hcs2 (by
   have e : encC (conf0 L) = [.slice none 0 0, .slice none 0 0, .slice none 0 0, .slice none 0 0, .int .i64 0, .int .i64 0, .int .i64 0, .int .i64 0, .int .i64 0, .int .i64 0, .int .i64 0, .int .i64 ((N0 : Int) / 4 % 3 * 40), .int .i64 (1 + (N0 : Int) / 12 % 2), .int .i64 (3 + (N0 : Int) / 24 % 8), .int .i64 ((N0 : Int) / 192 % 6), .int .i64 (1 + (N0 : Int) / 1152 % 3), .int .i64 (60 + (N0 : Int) / 3456 % 200), .int .i64 ((N1 : Int) % 7), .int .i64 0, .int .i64 (sampleN d)] := by rw [← HD.out, ← HN0.out, ← HN1.out]; rfl
   rw [e]
   exact hrs)
  have HBX := hide hbx
  have HE6 := hide (Keeps.ext hE5 hk5 (fun g hg => by omega))
  clear hbx hrs hcs1 hcs2 hk5 hth hnb hE5
  simp only [Act.put]
  go_wp2
  go_meet
  case rel => exact ⟨_, rfl, HE6.out, by omega, HBX.out⟩
 case rest =>
  obtain ⟨b5, rfl, hE, hb5, hh5⟩ := hcut
  have hbx : BoxC wc b5 (conf0 L) := hh5
  have hl0 := (Array.getElem?_eq_some_iff.1 HB0.out).1
  have hcs : CS w wc w.heap.size b5 (conf0 L) := ⟨HX0.out.trans hE, hbx, ⟨World.ownsRow_nil _ _ _ _, (fun s hs => by cases hs), World.ownsRow_nil _ _ _ _, World.ownsRow_nil _ _ _ _, (fun s hs => by cases hs), World.ownsRow_nil _ _ _ _⟩, ⟨_, (hE.block _ hl0).trans HB0.out, rfl⟩, Nat.le_trans HX0.out.size hb5, Nat.le_refl _, by omega⟩
  (try simp only [Exit.inBlock, Exit.then])
  apply_assumption
  exact of_frame236 _ rfl (conf_tail4 L a c w wc b5 _ rfl rfl rfl rfl hcs HS.out HL.out)
end Go.Proofs.YtmpciohmljpncaaGreatDoor
namespace Go.Proofs.YtmpciohmljpncaaGreatDoor
open Go.ChangeShapes Go.WideShapes Go.ChangeAt Go.RowKit Go.Lib Go.Shelf
set_option maxRecDepth 100000 in
set_option maxHeartbeats 16000000 in
theorem conf_any (L : List Int) (v : Value) (w : World) (hs : Ints w v L) (hL : ∀ x ∈ L, I64 x) :
  Calls Tryz.prog 4 #[v] w (ConfP L w) := by
 obtain ⟨_, a, c, rfl⟩ := hs.shape
 have HP0 := hide (fun X (hX : Ext w X) => (pick_any L 0 (.slice a L.length c) X (hs.ext hX) hL : Calls Tryz.prog 8 #[.slice a L.length c, .int .i64 0] X _))
 have HP1 := hide (fun X (hX : Ext w X) => (pick_any L 1 (.slice a L.length c) X (hs.ext hX) hL : Calls Tryz.prog 8 #[.slice a L.length c, .int .i64 1] X _))
 have HS := hide hs
 have HL := hide hL
 have p0 := pk_lt L 0
 have p1 := pk_lt L 1
 obtain ⟨N0, hN0⟩ : ∃ N, pk L 0 = N := ⟨_, rfl⟩
 obtain ⟨N1, hN1⟩ : ∃ N, pk L 1 = N := ⟨_, rfl⟩
 rw [hN0] at HP0 p0
 rw [hN1] at HP1 p1
 have HN0 := hide hN0
 have HN1 := hide hN1
 have p0z : (N0 : Int) < 1000000 := by omega
 have p1z : (N1 : Int) < 1000000 := by omega
 clear hs hL hN0 hN1
 go_enter Tryz.func4, Tryz.ntmps4
 go_upto_region 1 with (fail)
 have hx0 : Ext w (w.alloc (.cells #[.slice none 0 0, .slice none 0 0, .slice none 0 0, .slice none 0 0, .int .i64 0, .int .i64 0, .int .i64 0, .int .i64 0, .int .i64 0, .int .i64 0, .int .i64 0, .int .i64 0, .int .i64 0, .int .i64 0, .int .i64 0, .int .i64 0, .int .i64 0, .int .i64 0, .int .i64 0, .int .i64 0] 30)) := (Below.refl _ w).alloc (Nat.le_refl _) _
 have hb0 := heap_alloc_new w (.cells #[.slice none 0 0, .slice none 0 0, .slice none 0 0, .slice none 0 0, .int .i64 0, .int .i64 0, .int .i64 0, .int .i64 0, .int .i64 0, .int .i64 0, .int .i64 0, .int .i64 0, .int .i64 0, .int .i64 0, .int .i64 0, .int .i64 0, .int .i64 0, .int .i64 0, .int .i64 0, .int .i64 0] 30)
 generalize w.alloc (.cells #[.slice none 0 0, .slice none 0 0, .slice none 0 0, .slice none 0 0, .int .i64 0, .int .i64 0, .int .i64 0, .int .i64 0, .int .i64 0, .int .i64 0, .int .i64 0, .int .i64 0, .int .i64 0, .int .i64 0, .int .i64 0, .int .i64 0, .int .i64 0, .int .i64 0, .int .i64 0, .int .i64 0] 30) = W0 at hx0 hb0 ⊢
 have HX0 := hide hx0
 have HB0 := hide hb0
 clear hx0 hb0
 go_wp2_with fail
 refine (HP0.out _ HX0.out).mono ?_
 rintro e w1 ⟨rfl, rfl⟩
 go_upto_region 2 with (fail)
 go_cut [4] from 16 to 19 (fun s4 w' => s4 = .int .i64 (1 + (N0 : Int) % 4) ∧ w' = W0)
 case first =>
  go_wp2
  go_meet
  case rel => exact ⟨rfl, rfl⟩
 case rest =>
  obtain ⟨rfl, rfl⟩ := hcut
  have hM : (1 + (N0 : Int) % 4) = (svcsM L : Nat) := by unfold svcsM; rw [HN0.out]; omega
  (try simp only [Exit.inBlock, Exit.then])
  apply_assumption
  refine of_frame236 _ rfl (conf_tail3 L a c w _ _ rfl rfl ?_ ?_ HX0.out HB0.out HS.out HL.out)
  ·rw [HN0.out]; rfl
  ·rw [← hM]; rfl
end Go.Proofs.YtmpciohmljpncaaGreatDoor
