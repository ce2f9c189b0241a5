import Derived.Deep.AppendLies
import Derived.Deep.RegionHeld3
import Derived.Test.YtceaeiaoanhlnaaDoorZcg
namespace Go.Proofs.YtceaeiaoanhlnaaDoor
open Go.ChangeShapes Go.WideShapes Go.ChangeAt Go.RowKit Go.Lib Go.Shelf
theorem confB_zero (L : List Int) : confB L 0 = confA L (svcsM L) := by
 unfold confB confA
 rw [show endsZ L (svcsM L) 0 = [] from rfl, List.append_nil]
 rfl
set_option maxRecDepth 100000 in
set_option maxHeartbeats 16000000 in
theorem conf_tail6 (L : List Int) (a : Option Addr) (c : Nat) (w W : World) (b5 : Nat) (x : Nat → Value) (e0 : x 0 = .slice a L.length c) (e2 : x 2 = .pointer (some ⟨w.heap.size, 0, none⟩)) (e4 : x 4 = .int .i64 (svcsM L : Nat)) (e5 : x 5 = .pointer (some ⟨b5, 0, none⟩)) (c1 : ConfD) (hcore : c1.cor2 = confA L (svcsM L)) (hcs : CS w W w.heap.size b5 c1) (hs : Ints w (.slice a L.length c) L) (hL : ∀ x ∈ L, I64 x) :
  Code.wp Tryd.prog (confTail 6) (bodyPost Tryd.prog Tryd.f35 (ConfP L w)) ⟨frameOf 236 x, []⟩ W := by
 conv => arg 2; whnf
 rw [frame236]
 simp only [e0, e2, e4, e5]
 clear e0 e2 e4 e5
 have hm := svcsM_bd L
 have HP6 := hide (fun X (hX : Ext w X) => (pick_any L 6 (.slice a L.length c) X (hs.ext hX) hL : Calls Tryd.prog 56 #[.slice a L.length c, .int .i64 6] X _))
 have HS := hide hs
 have HL := hide hL
 have HCS := hide hcs
 rw [← confB_zero] at hcore
 have HC0 := hide hcore
 have p6 := pk_lt L 6
 have hem : endsM L = min (7 - svcsM L) (pk L 6 % 4) := rfl
 obtain ⟨N6, hN6⟩ : ∃ N, pk L 6 = N := ⟨_, rfl⟩
 obtain ⟨M, hM⟩ : ∃ M, svcsM L = M := ⟨_, rfl⟩
 rw [hN6] at HP6 p6 hem
 rw [hM] at hm hem ⊢
 have HN6 := hide hN6
 have HM := hide hM
 obtain ⟨hm1, hm4⟩ := hm
 have hm1z : (1 : Int) ≤ M := by omega
 have hm4z : (M : Int) ≤ 4 := by omega
 have p6z : (N6 : Int) < 1000000 := by omega
 have hm0 : ((M : Int) == 0) = false := beq_eq_false_iff_ne.2 (by omega)
 have hm0' : ¬ (M : Int) = 0 := by omega
 have hb1 : 0 ≤ (N6 : Int) / 4 % (M : Int) ∧ (N6 : Int) / 4 % (M : Int) < M := ⟨Int.emod_nonneg _ hm0', Int.emod_lt_of_pos _ (by omega)⟩
 have HB1 := hide hb1
 obtain ⟨EM, hEM⟩ : ∃ E, endsM L = E := ⟨_, rfl⟩
 rw [hEM] at hem
 have HEM := hide hEM
 clear hcs hN6 hM hs hL hcore hb1 hEM
 go_upto_block 4 with fail
 go_cut [10] from 132 to 165 (fun _ w' => ∃ c', c'.cor2 = confB L (endsM L) ∧ CS w w' w.heap.size b5 c')
 case first =>
  go_wp2_with fail
  go_loopw [10] (fun v10 wr => ∃ (tq : Nat) (cc : ConfD), v10 = .int .i64 ((M : Int) + 1 + (tq : Int)) ∧ tq ≤ EM ∧ Hid (cc.cor2 = confB L tq) ∧ Hid (CS w wr w.heap.size b5 cc)) (fun i _ => (M + 1 + EM : Nat) - (intOf i).toNat)
  case atStart => exact ⟨0, c1, (by show Value.int .i64 _ = Value.int .i64 _; simp), by omega, HC0.out, HCS.out⟩
  case round =>
   obtain ⟨tq, cc, rfl, ht, hcore, hcs⟩ := hrel
   have HCR := hide hcore.out
   have HCC := hide hcs.out
   clear hcore hcs
   generalize wr = wo at *
   have hp6 := HP6.out wo HCC.out.ext
   by_cases hlt : tq < EM
   ·have h1 : (M : Int) + 1 + (tq : Int) ≤ 7 := by omega
    have h2 : (M : Int) + 1 + (tq : Int) ≤ (M : Int) + (N6 : Int) % 4 := by omega
    have hEl : cc.E.length ≤ 10 := by
     have := congrArg (fun c => c.E.length) HCR.out
     have e : cc.E.length = (endsA L (svcsM L) ++ endsZ L (svcsM L) tq).length := by simpa [ConfD.cor2, ConfD.core, confB] using this
     rw [e, List.length_append, endsA_len, endsZ_len, HM.out]
     omega
    obtain ⟨ea, ec, hev⟩ := owns_shape HCC.out.own.e
    have heo := HCC.out.own.e
    rw [hev] at heo
    obtain ⟨ie, ze, hie0, hie1, hie2, hie3, hie4⟩ := info_partsN Tryd.infoE
    have HEV := hide hev
    have HEO := hide heo
    have HEL := hide hEl
    have HT := hide hlt
    have HPM := hide hp6
    clear hev heo hEl hp6 hlt ht
    go_wp2_with fail
    refine HPM.out.mono ?_
    rintro e w9 ⟨rfl, rfl⟩
    clear HPM
    have tn : ¬ M = 0 := by omega
    have td1 : (N6 : Int).tdiv 4 = (N6 : Int) / 4 := Int.tdiv_eq_ediv_of_nonneg (by omega)
    have tw1 : IntKind.i64.wrap ((N6 : Int) / 4) = (N6 : Int) / 4 := IntWalk.i64_in _ (by omega)
    obtain ⟨y, hy⟩ : ∃ y, (N6 : Int) / 4 % (M : Int) = y := ⟨_, rfl⟩
    have tb := HB1.out
    have td2 : ((N6 : Int) / 4).tmod (M : Int) = y := by rw [← hy]; exact Int.tmod_eq_emod_of_nonneg (by omega)
    rw [hy] at tb
    obtain ⟨tb1, tb2⟩ := tb
    have tb3 : y ≤ 4 := by omega
    have tw2 : IntKind.i64.wrap y = y := IntWalk.i64_in _ (by omega)
    have tw3 : IntKind.i64.wrap (1 + y) = 1 + y := IntWalk.i64_in _ (by omega)
    have td3 : (N6 : Int).tdiv 16 = (N6 : Int) / 16 := Int.tdiv_eq_ediv_of_nonneg (by omega)
    have tw4 : IntKind.i64.wrap ((N6 : Int) / 16) = (N6 : Int) / 16 := IntWalk.i64_in _ (by omega)
    have tw5 : IntKind.i64.wrap ((N6 : Int) / 16 + ((M : Int) + 1 + (tq : Int))) = (N6 : Int) / 16 + ((M : Int) + 1 + (tq : Int)) := IntWalk.i64_in _ (by omega)
    obtain ⟨z, hz⟩ : ∃ z, ((N6 : Int) / 16 + ((M : Int) + 1 + (tq : Int))) % 2 = z := ⟨_, rfl⟩
    have td4 : ((N6 : Int) / 16 + ((M : Int) + 1 + (tq : Int))).tmod 2 = z := by rw [← hz]; exact Int.tmod_eq_emod_of_nonneg (by omega)
    have hz1 : 0 ≤ z ∧ z ≤ 1 := by omega
    obtain ⟨hz2, hz3⟩ := hz1
    have tw6 : IntKind.i64.wrap z = z := IntWalk.i64_in _ (by omega)
    have tw7 : IntKind.i64.wrap (1 + z) = 1 + z := IntWalk.i64_in _ (by omega)
    have HY := hide hy
    have HZ := hide hz
    have cv : wo.cell? ⟨b5, 1, none⟩ = some (.slice ea cc.E.length ec) := by rw [← HEV.out]; exact HCC.out.box.cell 1 _ rfl
    have fv := HCC.out.box.frozen 1
    have hlt2 := HCC.out.box.lt
    have hbs := HCC.out.ext.size
    have hel10 := HEL.out
    have hcd := HCC.out.ext.trans (Below.refl _ wo).drew
    have HCD := hide hcd
    clear hy hz tb2 hcd
    go_upto_region 19 with (fail)
    go_region_law (first
     | (refine step_append_own (by rfl) _ _ _ (by rfl) w.heap.size 116 ie ze 3 24 Tryd.underlying55 hie0 hie1 hie2 hie3 hie4 (by omega) (.slice ea cc.E.length ec) cc.E.length _ (by rfl) ((HEO.out.alloc _).drew) ⟨wo.heap.size, 0, none⟩ 1 1 [.int .i64 ((M : Int) + 1 + (tq : Int)), .int .i64 (1 + y), .int .i64 (1 + z)] (by rfl) (by rfl) (World.news_of_block (cs := #[.int .i64 ((M : Int) + 1 + (tq : Int)), .int .i64 (1 + y), .int .i64 (1 + z)]) (t := 116) (fr := (0, 0)) (heap_alloc_new wo _)) (by simp [Value.oneCell']) (by unfold maxLen; omega) (by omega) (by simp; omega) ?_; intro v2 w6 hown2 hgrow2 _; obtain ⟨a2, c2, rfl⟩ := owns_shape hown2; have hk6 := Keeps.of_grown (X := fun q => (Value.slice ea cc.E.length ec).ownBlock = some q) hgrow2 (fun _ h => h); have hb6 := HCC.out.box.keep ((hk6.block b5 (by simp; omega) (fun e => absurd (owns_type HEO.out e HCC.out.box) (by decide))).trans ((((Below.refl _ wo).alloc (Nat.le_refl _) (.cells #[.int .i64 ((M : Int) + 1 + (tq : Int)), .int .i64 (1 + y), .int .i64 (1 + z)] 116)).drew).block b5 hlt2)); have cv6 : w6.cell? ⟨b5, 1, none⟩ = some cc.ev := hb6.cell 1 _ rfl; have fv6 := hb6.frozen 1)
     | (go_simp; go_at_call 56; refine (HP6.out _ HCD.out).mono ?_; rintro e w7 ⟨rfl, rfl⟩))
    all_goals
     have hk7 : Keeps (fun q => cc.ev.ownBlock = some q) wo w6 := by rw [HEV.out]; exact (Keeps.of_ext (((Below.refl _ wo).alloc (Nat.le_refl _) _).drew)).trans hk6
     have hC3 := HCC.out.addE (s := ⟨(M : Int) + 1 + (tq : Int), 1 + y, 1 + z⟩) hk7 hown2
     have hcore3 : ({ cc with ev := .slice a2 (cc.E.length + 1) c2, E := cc.E ++ [⟨(M : Int) + 1 + (tq : Int), 1 + y, 1 + z⟩] } : ConfD).cor2 = confB L (tq + 1) := by
      show ({ cc.cor2 with E := cc.cor2.E ++ [⟨(M : Int) + 1 + (tq : Int), 1 + y, 1 + z⟩] } : ConfD) = _
      have ee : (⟨(M : Int) + 1 + (tq : Int), 1 + y, 1 + z⟩ : EndD) = endZ L M (M + 1 + tq) := by
       unfold endZ
       rw [HN6.out, ← HY.out, ← HZ.out]
       simp
      rw [HCR.out, ee]
      show ({ confB L tq with E := (endsA L (svcsM L) ++ endsZ L (svcsM L) tq) ++ [endZ L M (M + 1 + tq)] } : ConfD) = { genC L with E := endsA L (svcsM L) ++ endsZ L (svcsM L) (tq + 1), R := [], T := [], w0 := 0, w1 := 0, w2 := 0, w3 := 0, w4 := 0, w5 := 0, w6 := 0 }
      rw [← HM.out, List.append_assoc, ← endsZ_succ]
      rfl
     have HC3 := hide hC3
     have HCO3 := hide hcore3
     have htm := HT.out
     clear hC3 hcore3 hk7 hk6 hown2 hgrow2 hb6 cv6 fv6 cv fv td1 td2 td3 td4 tw1 tw2 tw3 tw4 tw5 tw6 tw7 hem
     go_wp2
     go_roundw
     case rel => exact ⟨tq + 1, _, (by show Value.int .i64 _ = Value.int .i64 _; congr 1), by omega, HCO3.out, HC3.out⟩
     case measure => simp [intOf] <;> omega
   ·have hte : tq = EM := by omega
    have HTE := hide hte
    have HPM := hide hp6
    clear hp6
    by_cases h7 : (M : Int) + 1 + (tq : Int) ≤ 7
    ·have h2 : ¬ (M : Int) + 1 + (tq : Int) ≤ (M : Int) + (N6 : Int) % 4 := by omega
     have hib : -100 ≤ (M : Int) + 1 + (tq : Int) ∧ (M : Int) + 1 + (tq : Int) ≤ 100 := by omega
     clear hlt ht hem hte
     generalize (M : Int) + 1 + (tq : Int) = ii at *
     obtain ⟨hib1, hib2⟩ := hib
     go_wp2_with fail
     refine HPM.out.mono ?_
     rintro e w9 ⟨rfl, rfl⟩
     clear HPM HB1 hm0 hm0' hm1z hm1 hm4
     obtain ⟨z, hz⟩ : ∃ z, (N6 : Int) % 4 = z := ⟨_, rfl⟩
     have td : (N6 : Int).tmod 4 = z := by rw [← hz]; exact Int.tmod_eq_emod_of_nonneg (by omega)
     have hz1 : 0 ≤ z := by omega
     have hz2 : z ≤ 3 := by omega
     rw [hz] at h2
     have tw1 : IntKind.i64.wrap z = z := IntWalk.i64_in _ (by omega)
     have tw2 : IntKind.i64.wrap ((M : Int) + z) = (M : Int) + z := IntWalk.i64_in _ (by omega)
     have hb : decide (ii ≤ (M : Int) + z) = false := decide_eq_false (by omega)
     clear h2 hz p6 p6z hm4z
     go_wp2
     go_meet
     case rel => exact ⟨cc, by rw [HEM.out, ← HTE.out]; exact HCR.out, HCC.out⟩
    ·clear hlt ht hem hte
     generalize (M : Int) + 1 + (tq : Int) = ii at *
     go_wp2
     go_meet
     case rel => exact ⟨cc, by rw [HEM.out, ← HTE.out]; exact HCR.out, HCC.out⟩
 case rest =>
  obtain ⟨c', hcore, hcs⟩ := hcut
  (try simp only [Exit.inBlock, Exit.then])
  apply_assumption
  exact of_frame236 _ rfl (conf_tail7 L a c w wc b5 _ rfl rfl (by rw [HM.out]; rfl) rfl c' hcore hcs HS.out HL.out)
end Go.Proofs.YtceaeiaoanhlnaaDoor
